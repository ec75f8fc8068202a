/-
  JOINED of the texts RRune
-/
import Derived.Test.YtalklmeejdmifaaGreatDoorJaa
import Derived.Test.YtalklmeejdmifaaGreatDoorJab
import Derived.Deep.DeepCutAuto
import Derived.Test.YtalklmeejdmifaaGreatDoorRows
import Derived.WalkKit
import Derived.WalkSpells
import Derived.WalkLawsBesides
import Derived.Below
import Derived.Laws.OwnMore
import Derived.Deep.AppendLies
import Derived.Deep.Draws
import Derived.Lib.Hide
import Derived.Deep.QuietTactic
import Derived.BigQuiet
import Derived.IntWalk
import Derived.Lib.RuneBytes
import Derived.Lib.Strings
/-
  THE WALK of amanuensisref1.Rune: it finds what decoding finds.
-/
namespace Go.Proofs.YtalklmeejdmifaaGreatDoor
open Go.RowKit

/-- the number that goes on by the bytes 1 .. k - 1 -/
def accB (c0 : Nat) (l : List UInt8) : Nat → Nat
  | 0 => c0
  | 1 => c0
  | k + 2 => accB c0 l (k + 1) * 64 + (byteAt l (k + 1) - 128)
theorem accB_succ (c0 : Nat) (l : List UInt8) {k : Nat} (hk : 1 ≤ k) : accB c0 l (k + 1) = accB c0 l k * 64 + (byteAt l k - 128) := by
  obtain ⟨k, rfl⟩ : ∃ m, k = m + 1 := ⟨k - 1, by omega⟩
  rfl
theorem accB_2 (c0 : Nat) (l : List UInt8) : accB c0 l 2 = c0 * 64 + (byteAt l 1 - 128) := rfl
theorem accB_3 (c0 : Nat) (l : List UInt8) : accB c0 l 3 = (c0 * 64 + (byteAt l 1 - 128)) * 64 + (byteAt l 2 - 128) := rfl
theorem accB_4 (c0 : Nat) (l : List UInt8) : accB c0 l 4 = ((c0 * 64 + (byteAt l 1 - 128)) * 64 + (byteAt l 2 - 128)) * 64 + (byteAt l 3 - 128) := rfl
def isCont (l : List UInt8) (k : Nat) : Prop := 128 ≤ byteAt l k ∧ byteAt l k ≤ 191
theorem contAt_iff {l : List UInt8} {k : Nat} (hk : k < l.length) : contAt l k = true ↔ isCont l k := by
  unfold contAt isCont
  simp [hk]
  omega
theorem contAt_short {l : List UInt8} {k : Nat} (hk : l.length ≤ k) : contAt l k = false := by
  unfold contAt
  have : ¬ k < l.length := by omega
  simp [this]
def wrongC (least c : Nat) : Bool := decide (c < least) || decide (c > 1114111) || (decide (c ≥ 55296) && decide (c ≤ 57343))

theorem valid_iff (c least : Nat) : (decide (c ≥ least) && Utf8.valid c) = !wrongC least c := by
  unfold wrongC Utf8.valid
  rw [Bool.eq_iff_iff]
  simp
  omega

theorem dec_other {l : List UInt8} (h0 : 128 ≤ byteAt l 0) (h1 : ¬ (194 ≤ byteAt l 0 ∧ byteAt l 0 ≤ 223)) (h2 : ¬ (224 ≤ byteAt l 0 ∧ byteAt l 0 ≤ 239)) (h3 : ¬ (240 ≤ byteAt l 0 ∧ byteAt l 0 ≤ 244)) (h4 : byteAt l 0 < 256) : dec l = (65533, 1) := by
  unfold dec
  rw [if_neg (by omega)]
  split
  · rename_i h
    simp only [Bool.and_eq_true, beq_iff_eq] at h
    have h5 := (cont_lt h.2).2
    rw [if_neg (by omega)]; rfl
  split
  · rename_i h
    simp only [Bool.and_eq_true, beq_iff_eq] at h
    omega
  split
  · rename_i h
    simp only [Bool.and_eq_true, beq_iff_eq] at h
    have h5 := (cont_lt h.1.1.2).2
    have h6 := (cont_lt h.1.2).2
    have h7 := (cont_lt h.2).2
    have h8 : ¬ ((byteAt l 0 % 8) * 262144 + (byteAt l 1 % 64) * 4096 + (byteAt l 2 % 64) * 64 + byteAt l 3 % 64 ≤ 1114111) := by omega
    rw [if_neg (by unfold Utf8.valid; simp; omega)]; rfl
  · rfl

theorem dec_stop2 {l : List UInt8} (h0 : 194 ≤ byteAt l 0) (h1 : byteAt l 0 ≤ 223) {k : Nat} (hk : 1 ≤ k) (hkn : k < 2) (hc : contAt l k = false) : dec l = (65533, 1) := by
  have hcs : contAt l 1 = false := by
    have : k = 1 := by omega
    rcases this with rfl <;> simp [hc]
  unfold dec
  rw [if_neg (by omega), if_neg, if_neg, if_neg]
  · rfl
  · simp only [Bool.and_eq_true, beq_iff_eq]
    rintro ⟨⟨⟨a, _⟩, _⟩, _⟩; omega
  · simp only [Bool.and_eq_true, beq_iff_eq]
    rintro ⟨⟨a, _⟩, _⟩; omega
  · simp only [Bool.and_eq_true, beq_iff_eq]
    rintro ⟨a, b⟩; simp_all
theorem dec_full2 {l : List UInt8} (h0 : 194 ≤ byteAt l 0) (h1 : byteAt l 0 ≤ 223) (hl : 2 ≤ l.length) (hc : ∀ k, 1 ≤ k → k < 2 → isCont l k) :
    dec l = if wrongC 128 (accB (byteAt l 0 - 192) l 2) then (65533, 1) else (accB (byteAt l 0 - 192) l 2, 2) := by
  have c1 := hc 1 (by omega) (by omega)
  have d1 := (contAt_iff (l := l) (k := 1) (by omega)).2 c1
  obtain ⟨p1, q1⟩ := c1
  unfold dec
  have e : accB (byteAt l 0 - 192) l 2 = (byteAt l 0 % 32) * 64 + byteAt l 1 % 64 := by
    have m0 : byteAt l 0 % 32 = byteAt l 0 - 192 := by omega
    have m1 : byteAt l 1 % 64 = byteAt l 1 - 128 := by omega
    rw [m0, m1, accB_2]
  rw [e]
  rw [if_neg (by omega), if_pos (by simp [d1]; omega)]
  have hv : wrongC 128 ((byteAt l 0 % 32) * 64 + byteAt l 1 % 64) = false := by
    unfold wrongC
    simp
    omega
  rw [hv, if_pos (by omega)]
  rfl

theorem dec_stop3 {l : List UInt8} (h0 : 224 ≤ byteAt l 0) (h1 : byteAt l 0 ≤ 239) {k : Nat} (hk : 1 ≤ k) (hkn : k < 3) (hc : contAt l k = false) : dec l = (65533, 1) := by
  have hcs : contAt l 1 = false ∨ contAt l 2 = false := by
    have : k = 1 ∨ k = 2 := by omega
    rcases this with rfl | rfl <;> simp [hc]
  unfold dec
  rw [if_neg (by omega), if_neg, if_neg, if_neg]
  · rfl
  · simp only [Bool.and_eq_true, beq_iff_eq]
    rintro ⟨⟨⟨a, _⟩, _⟩, _⟩; omega
  · simp only [Bool.and_eq_true, beq_iff_eq]
    rintro ⟨⟨a, b⟩, c⟩; rcases hcs with h | h <;> simp_all
  · simp only [Bool.and_eq_true, beq_iff_eq]
    rintro ⟨a, _⟩; omega
theorem dec_full3 {l : List UInt8} (h0 : 224 ≤ byteAt l 0) (h1 : byteAt l 0 ≤ 239) (hl : 3 ≤ l.length) (hc : ∀ k, 1 ≤ k → k < 3 → isCont l k) :
    dec l = if wrongC 2048 (accB (byteAt l 0 - 224) l 3) then (65533, 1) else (accB (byteAt l 0 - 224) l 3, 3) := by
  have c1 := hc 1 (by omega) (by omega)
  have c2 := hc 2 (by omega) (by omega)
  have d1 := (contAt_iff (l := l) (k := 1) (by omega)).2 c1
  have d2 := (contAt_iff (l := l) (k := 2) (by omega)).2 c2
  obtain ⟨p1, q1⟩ := c1
  obtain ⟨p2, q2⟩ := c2
  unfold dec
  have e : accB (byteAt l 0 - 224) l 3 = (byteAt l 0 % 16) * 4096 + (byteAt l 1 % 64) * 64 + byteAt l 2 % 64 := by
    have m0 : byteAt l 0 % 16 = byteAt l 0 - 224 := by omega
    have m1 : byteAt l 1 % 64 = byteAt l 1 - 128 := by omega
    have m2 : byteAt l 2 % 64 = byteAt l 2 - 128 := by omega
    rw [m0, m1, m2, accB_3]
    omega
  rw [e]
  rw [if_neg (by omega), if_neg (by simp only [Bool.and_eq_true, beq_iff_eq]; rintro ⟨a, _⟩; omega), if_pos (by simp [d1, d2]; omega)]
  rw [valid_iff]
  generalize (byteAt l 0 % 16) * 4096 + (byteAt l 1 % 64) * 64 + byteAt l 2 % 64 = c
  cases wrongC 2048 c <;> rfl

theorem dec_stop4 {l : List UInt8} (h0 : 240 ≤ byteAt l 0) (h1 : byteAt l 0 ≤ 244) {k : Nat} (hk : 1 ≤ k) (hkn : k < 4) (hc : contAt l k = false) : dec l = (65533, 1) := by
  have hcs : contAt l 1 = false ∨ contAt l 2 = false ∨ contAt l 3 = false := by
    have : k = 1 ∨ k = 2 ∨ k = 3 := by omega
    rcases this with rfl | rfl | rfl <;> simp [hc]
  unfold dec
  rw [if_neg (by omega), if_neg, if_neg, if_neg]
  · rfl
  · simp only [Bool.and_eq_true, beq_iff_eq]
    rintro ⟨⟨⟨a, b⟩, c⟩, d⟩; rcases hcs with h | h | h <;> simp_all
  · simp only [Bool.and_eq_true, beq_iff_eq]
    rintro ⟨⟨a, _⟩, _⟩; omega
  · simp only [Bool.and_eq_true, beq_iff_eq]
    rintro ⟨a, _⟩; omega
theorem dec_full4 {l : List UInt8} (h0 : 240 ≤ byteAt l 0) (h1 : byteAt l 0 ≤ 244) (hl : 4 ≤ l.length) (hc : ∀ k, 1 ≤ k → k < 4 → isCont l k) :
    dec l = if wrongC 65536 (accB (byteAt l 0 - 240) l 4) then (65533, 1) else (accB (byteAt l 0 - 240) l 4, 4) := by
  have c1 := hc 1 (by omega) (by omega)
  have c2 := hc 2 (by omega) (by omega)
  have c3 := hc 3 (by omega) (by omega)
  have d1 := (contAt_iff (l := l) (k := 1) (by omega)).2 c1
  have d2 := (contAt_iff (l := l) (k := 2) (by omega)).2 c2
  have d3 := (contAt_iff (l := l) (k := 3) (by omega)).2 c3
  obtain ⟨p1, q1⟩ := c1
  obtain ⟨p2, q2⟩ := c2
  obtain ⟨p3, q3⟩ := c3
  unfold dec
  have e : accB (byteAt l 0 - 240) l 4 = (byteAt l 0 % 8) * 262144 + (byteAt l 1 % 64) * 4096 + (byteAt l 2 % 64) * 64 + byteAt l 3 % 64 := by
    have m0 : byteAt l 0 % 8 = byteAt l 0 - 240 := by omega
    have m1 : byteAt l 1 % 64 = byteAt l 1 - 128 := by omega
    have m2 : byteAt l 2 % 64 = byteAt l 2 - 128 := by omega
    have m3 : byteAt l 3 % 64 = byteAt l 3 - 128 := by omega
    rw [m0, m1, m2, m3, accB_4]
    omega
  rw [e]
  rw [if_neg (by omega), if_neg (by simp only [Bool.and_eq_true, beq_iff_eq]; rintro ⟨a, _⟩; omega), if_neg (by simp only [Bool.and_eq_true, beq_iff_eq]; rintro ⟨⟨a, _⟩, _⟩; omega), if_pos (by simp [d1, d2, d3]; omega)]
  rw [valid_iff]
  generalize (byteAt l 0 % 8) * 262144 + (byteAt l 1 % 64) * 4096 + (byteAt l 2 % 64) * 64 + byteAt l 3 % 64 = c
  cases wrongC 65536 c <;> rfl

theorem byte0 (s : ByteArray) (h : 0 < s.size) : byteAt s.data.toList 0 = (s[0]).toNat := by
  unfold byteAt
  rw [List.getElem?_eq_getElem (by rw [dlen]; exact h)]
  rfl
theorem byteK (s : ByteArray) (k : Nat) (h : k < s.size) : byteAt s.data.toList k = (s[k]).toNat := by
  unfold byteAt
  rw [List.getElem?_eq_getElem (by rw [dlen]; exact h)]
  rfl
theorem byte_lt (l : List UInt8) (k : Nat) : byteAt l k < 256 := by
  unfold byteAt
  exact UInt8.toNat_lt _
theorem accB_le (c0 : Nat) (l : List UInt8) (h : c0 ≤ 31) : ∀ k, k ≤ 4 → accB c0 l k ≤ 16777215 := by
  intro k hk
  have h1 := byte_lt l 1
  have h2 := byte_lt l 2
  have h3 := byte_lt l 3
  have e0 : accB c0 l 0 = c0 := rfl
  have e1 : accB c0 l 1 = c0 := rfl
  have : k = 0 ∨ k = 1 ∨ k = 2 ∨ k = 3 ∨ k = 4 := by omega
  rcases this with rfl | rfl | rfl | rfl | rfl <;> (try rw [accB_2]) <;> (try rw [accB_3]) <;> (try rw [accB_4]) <;> omega

set_option maxHeartbeats 1000000 in
set_option maxRecDepth 100000 in
theorem rrune2 (s : ByteArray) (w : World) (hs : 0 < s.size) (h0 : 194 ≤ byteAt s.data.toList 0) (h1 : byteAt s.data.toList 0 ≤ 223) :
    Calls Tryz.prog 116 #[.string s] w fun e w' => e = .returned (.tuple #[.int .i64 (dec s.data.toList).1, .int .i64 (dec s.data.toList).2]) ∧ w = w' := by
  have hst := fun k => dec_stop2 (l := s.data.toList) h0 h1 (k := k)
  have hfu := dec_full2 (l := s.data.toList) h0 h1
  have hac := accB_le (byteAt s.data.toList 0 - 192) s.data.toList (by omega)
  have hb0 := byte0 s hs
  have Hst := Lib.hid hst
  have Hfu := Lib.hid hfu
  have Hac := Lib.hid hac
  clear hst hfu hac
  have hzz : ¬ s.size = 0 := by omega
  rw [hb0] at h0 h1 Hfu Hac
  clear hb0
  generalize hb : (s[0]).toNat = a at h0 h1 Hfu Hac
  have hidx : s[0].toNat = a := hb
  clear hb
  by_cases hn : s.size < 2
  · have hn2 : (s.size : Int) < 2 := by omega
    have HD : Hid (dec s.data.toList = (65533, 1)) := Hst.out 1 (by omega) (by omega) (contAt_short (by rw [dlen]; omega))
    clear Hst Hfu Hac
    rw [HD.out]
    go_enter Tryz.func116, Tryz.ntmps116
    go_wp2_with fail
    go_ret2
    exact ⟨rfl, rfl⟩
  · have hn2 : ¬ ((s.size : Int) < 2) := by omega
    have hn3 : 2 ≤ s.size := by omega
    go_enter Tryz.func116, Tryz.ntmps116
    go_wp2_with fail
    clear hidx
    go_loop [6, 8] (fun c i => ∃ k : Nat, 1 ≤ k ∧ k ≤ 2 ∧ i = .int .i64 k ∧ c = .int .i64 (accB (a - 192) s.data.toList k) ∧ Hid (∀ m, 1 ≤ m → m < k → isCont s.data.toList m)) (fun _ i => 2 - (intOf i).toNat)
    case atStart => exact ⟨1, by omega, by omega, rfl, by show _ = Value.int .i64 ((a - 192 : Nat) : Int); rw [show ((a - 192 : Nat) : Int) = (a : Int) - 192 from by omega], fun m h1 h2 => by omega⟩
    case round =>
      obtain ⟨k, hk1, hk2, rfl, rfl, HC⟩ := hrel
      have hacc := Hac.out k (by omega)
      by_cases hkn : k < 2
      · have hks : k < s.size := by omega
        have hbk := byteK s k hks
        have Hs := Lib.hid (accB_succ (a - 192) s.data.toList hk1)
        have hbl := byte_lt s.data.toList k
        have HK : Hid (isCont s.data.toList k ↔ (128 ≤ byteAt s.data.toList k ∧ byteAt s.data.toList k ≤ 191)) := Iff.rfl
        have HX : Hid (¬ isCont s.data.toList k → dec s.data.toList = (65533, 1)) := fun h => Hst.out k hk1 hkn (by
          cases hq : contAt s.data.toList k with
          | false => rfl
          | true => exact absurd ((contAt_iff (by rw [dlen]; exact hks)).1 hq) h)
        generalize byteAt s.data.toList k = b at *
        have hidx2 : s[k].toNat = b := hbk.symm
        clear hbk
        generalize accB (a - 192) s.data.toList k = c at *
        have hkz : (0 : Int) ≤ (k : Int) := by omega
        by_cases hb1 : b < 128
        · have HD := HX.out (fun h => by have := HK.out.1 h; omega)
          have HD2 := Lib.hid HD
          clear HD
          go_wp2_with fail
          rw [HD2.out]
          go_ret2
          exact ⟨rfl, rfl⟩
        · by_cases hb2 : 191 < b
          · have HD := HX.out (fun h => by have := HK.out.1 h; omega)
            have HD2 := Lib.hid HD
            clear HD
            have d1 : decide ((b : Int) < 128) = false := by simp; omega
            go_wp2_with fail
            rw [HD2.out]
            go_ret2
            exact ⟨rfl, rfl⟩
          · have d1 : decide ((b : Int) < 128) = false := by simp; omega
            have d2 : decide ((191 : Int) < (b : Int)) = false := by simp; omega
            have hcont := HK.out.2 ⟨by omega, by omega⟩
            go_wp2_with fail
            go_round
            case rel => exact ⟨k + 1, by omega, by omega, by go_num, by rw [Hs.out]; rw [show ((c * 64 + (b - 128) : Nat) : Int) = (c : Int) * 64 + b - 128 from by omega], fun m h3 h4 => (Nat.lt_or_ge m k).elim (fun h5 => HC.out m h3 h5) (fun h5 => by have h6 : m = k := (by omega); rw [h6]; exact hcont)⟩
            case measure => simp [intOf]; omega
      · obtain rfl : k = 2 := by omega
        have HD := Hfu.out (by rw [dlen]; omega) (fun k h1 h2 => HC.out k h1 h2)
        have HD2 := Lib.hid HD
        clear HD Hst Hfu HC
        generalize accB (a - 192) s.data.toList 2 = c at *
        have hw : c < 128 ∨ (¬ c < 128 ∧ 1114111 < c) ∨ (¬ c < 128 ∧ ¬ 1114111 < c ∧ 55296 ≤ c ∧ c ≤ 57343) ∨ (¬ c < 128 ∧ ¬ 1114111 < c ∧ 55296 ≤ c ∧ ¬ c ≤ 57343) ∨ (¬ c < 128 ∧ ¬ 1114111 < c ∧ ¬ 55296 ≤ c) := by omega
        rcases hw with q1 | ⟨q1, q2⟩ | ⟨q1, q2, q3, q4⟩ | ⟨q1, q2, q3, q4⟩ | ⟨q1, q2, q3⟩
        · have HD3 : Hid (dec s.data.toList = (65533, 1)) := by show _ = _; rw [HD2.out, if_pos (by simp [wrongC, q1])]
          have d1 : decide ((c : Int) < 128) = true := by simp; omega
          clear HD2 q1
          go_wp2_with fail
          rw [HD3.out]
          go_ret2
          exact ⟨rfl, rfl⟩
        · have HD3 : Hid (dec s.data.toList = (65533, 1)) := by show _ = _; rw [HD2.out, if_pos (by simp [wrongC, q2])]
          have d1 : decide ((c : Int) < 128) = false := by simp; omega
          have d2 : decide ((1114111 : Int) < (c : Int)) = true := by simp; omega
          clear HD2 q1 q2
          go_wp2_with fail
          rw [HD3.out]
          go_ret2
          exact ⟨rfl, rfl⟩
        · have HD3 : Hid (dec s.data.toList = (65533, 1)) := by show _ = _; rw [HD2.out, if_pos (by simp [wrongC, q3, q4])]
          have d1 : decide ((c : Int) < 128) = false := by simp; omega
          have d2 : decide ((1114111 : Int) < (c : Int)) = false := by simp; omega
          have d3 : decide ((55296 : Int) ≤ (c : Int)) = true := by simp; omega
          have d4 : decide ((c : Int) ≤ 57343) = true := by simp; omega
          clear HD2 q1 q2 q3 q4
          go_wp2_with fail
          rw [HD3.out]
          go_ret2
          exact ⟨rfl, rfl⟩
        · have HD3 : Hid (dec s.data.toList = (c, 2)) := by show _ = _; rw [HD2.out, if_neg (by simp [wrongC]; omega)]
          have d1 : decide ((c : Int) < 128) = false := by simp; omega
          have d2 : decide ((1114111 : Int) < (c : Int)) = false := by simp; omega
          have d3 : decide ((55296 : Int) ≤ (c : Int)) = true := by simp; omega
          have d4 : decide ((c : Int) ≤ 57343) = false := by simp; omega
          clear HD2 q1 q2 q3 q4
          go_wp2_with fail
          rw [HD3.out]
          go_ret2
          exact ⟨rfl, rfl⟩
        · have HD3 : Hid (dec s.data.toList = (c, 2)) := by show _ = _; rw [HD2.out, if_neg (by simp [wrongC]; omega)]
          have d1 : decide ((c : Int) < 128) = false := by simp; omega
          have d2 : decide ((1114111 : Int) < (c : Int)) = false := by simp; omega
          have d3 : decide ((55296 : Int) ≤ (c : Int)) = false := by simp; omega
          clear HD2 q1 q2 q3
          go_wp2_with fail
          rw [HD3.out]
          go_ret2
          exact ⟨rfl, rfl⟩

set_option maxHeartbeats 1000000 in
set_option maxRecDepth 100000 in
theorem rrune3 (s : ByteArray) (w : World) (hs : 0 < s.size) (h0 : 224 ≤ byteAt s.data.toList 0) (h1 : byteAt s.data.toList 0 ≤ 239) :
    Calls Tryz.prog 116 #[.string s] w fun e w' => e = .returned (.tuple #[.int .i64 (dec s.data.toList).1, .int .i64 (dec s.data.toList).2]) ∧ w = w' := by
  have hst := fun k => dec_stop3 (l := s.data.toList) h0 h1 (k := k)
  have hfu := dec_full3 (l := s.data.toList) h0 h1
  have hac := accB_le (byteAt s.data.toList 0 - 224) s.data.toList (by omega)
  have hb0 := byte0 s hs
  have Hst := Lib.hid hst
  have Hfu := Lib.hid hfu
  have Hac := Lib.hid hac
  clear hst hfu hac
  have hzz : ¬ s.size = 0 := by omega
  rw [hb0] at h0 h1 Hfu Hac
  clear hb0
  generalize hb : (s[0]).toNat = a at h0 h1 Hfu Hac
  have hidx : s[0].toNat = a := hb
  clear hb
  by_cases hn : s.size < 3
  · have hn2 : (s.size : Int) < 3 := by omega
    have HD : Hid (dec s.data.toList = (65533, 1)) := Hst.out 2 (by omega) (by omega) (contAt_short (by rw [dlen]; omega))
    clear Hst Hfu Hac
    rw [HD.out]
    go_enter Tryz.func116, Tryz.ntmps116
    go_wp2_with fail
    go_ret2
    exact ⟨rfl, rfl⟩
  · have hn2 : ¬ ((s.size : Int) < 3) := by omega
    have hn3 : 3 ≤ s.size := by omega
    go_enter Tryz.func116, Tryz.ntmps116
    go_wp2_with fail
    clear hidx
    go_loop [6, 8] (fun c i => ∃ k : Nat, 1 ≤ k ∧ k ≤ 3 ∧ i = .int .i64 k ∧ c = .int .i64 (accB (a - 224) s.data.toList k) ∧ Hid (∀ m, 1 ≤ m → m < k → isCont s.data.toList m)) (fun _ i => 3 - (intOf i).toNat)
    case atStart => exact ⟨1, by omega, by omega, rfl, by show _ = Value.int .i64 ((a - 224 : Nat) : Int); rw [show ((a - 224 : Nat) : Int) = (a : Int) - 224 from by omega], fun m h1 h2 => by omega⟩
    case round =>
      obtain ⟨k, hk1, hk2, rfl, rfl, HC⟩ := hrel
      have hacc := Hac.out k (by omega)
      by_cases hkn : k < 3
      · have hks : k < s.size := by omega
        have hbk := byteK s k hks
        have Hs := Lib.hid (accB_succ (a - 224) s.data.toList hk1)
        have hbl := byte_lt s.data.toList k
        have HK : Hid (isCont s.data.toList k ↔ (128 ≤ byteAt s.data.toList k ∧ byteAt s.data.toList k ≤ 191)) := Iff.rfl
        have HX : Hid (¬ isCont s.data.toList k → dec s.data.toList = (65533, 1)) := fun h => Hst.out k hk1 hkn (by
          cases hq : contAt s.data.toList k with
          | false => rfl
          | true => exact absurd ((contAt_iff (by rw [dlen]; exact hks)).1 hq) h)
        generalize byteAt s.data.toList k = b at *
        have hidx2 : s[k].toNat = b := hbk.symm
        clear hbk
        generalize accB (a - 224) s.data.toList k = c at *
        have hkz : (0 : Int) ≤ (k : Int) := by omega
        by_cases hb1 : b < 128
        · have HD := HX.out (fun h => by have := HK.out.1 h; omega)
          have HD2 := Lib.hid HD
          clear HD
          go_wp2_with fail
          rw [HD2.out]
          go_ret2
          exact ⟨rfl, rfl⟩
        · by_cases hb2 : 191 < b
          · have HD := HX.out (fun h => by have := HK.out.1 h; omega)
            have HD2 := Lib.hid HD
            clear HD
            have d1 : decide ((b : Int) < 128) = false := by simp; omega
            go_wp2_with fail
            rw [HD2.out]
            go_ret2
            exact ⟨rfl, rfl⟩
          · have d1 : decide ((b : Int) < 128) = false := by simp; omega
            have d2 : decide ((191 : Int) < (b : Int)) = false := by simp; omega
            have hcont := HK.out.2 ⟨by omega, by omega⟩
            go_wp2_with fail
            go_round
            case rel => exact ⟨k + 1, by omega, by omega, by go_num, by rw [Hs.out]; rw [show ((c * 64 + (b - 128) : Nat) : Int) = (c : Int) * 64 + b - 128 from by omega], fun m h3 h4 => (Nat.lt_or_ge m k).elim (fun h5 => HC.out m h3 h5) (fun h5 => by have h6 : m = k := (by omega); rw [h6]; exact hcont)⟩
            case measure => simp [intOf]; omega
      · obtain rfl : k = 3 := by omega
        have HD := Hfu.out (by rw [dlen]; omega) (fun k h1 h2 => HC.out k h1 h2)
        have HD2 := Lib.hid HD
        clear HD Hst Hfu HC
        generalize accB (a - 224) s.data.toList 3 = c at *
        have hw : c < 2048 ∨ (¬ c < 2048 ∧ 1114111 < c) ∨ (¬ c < 2048 ∧ ¬ 1114111 < c ∧ 55296 ≤ c ∧ c ≤ 57343) ∨ (¬ c < 2048 ∧ ¬ 1114111 < c ∧ 55296 ≤ c ∧ ¬ c ≤ 57343) ∨ (¬ c < 2048 ∧ ¬ 1114111 < c ∧ ¬ 55296 ≤ c) := by omega
        rcases hw with q1 | ⟨q1, q2⟩ | ⟨q1, q2, q3, q4⟩ | ⟨q1, q2, q3, q4⟩ | ⟨q1, q2, q3⟩
        · have HD3 : Hid (dec s.data.toList = (65533, 1)) := by show _ = _; rw [HD2.out, if_pos (by simp [wrongC, q1])]
          have d1 : decide ((c : Int) < 2048) = true := by simp; omega
          clear HD2 q1
          go_wp2_with fail
          rw [HD3.out]
          go_ret2
          exact ⟨rfl, rfl⟩
        · have HD3 : Hid (dec s.data.toList = (65533, 1)) := by show _ = _; rw [HD2.out, if_pos (by simp [wrongC, q2])]
          have d1 : decide ((c : Int) < 2048) = false := by simp; omega
          have d2 : decide ((1114111 : Int) < (c : Int)) = true := by simp; omega
          clear HD2 q1 q2
          go_wp2_with fail
          rw [HD3.out]
          go_ret2
          exact ⟨rfl, rfl⟩
        · have HD3 : Hid (dec s.data.toList = (65533, 1)) := by show _ = _; rw [HD2.out, if_pos (by simp [wrongC, q3, q4])]
          have d1 : decide ((c : Int) < 2048) = false := by simp; omega
          have d2 : decide ((1114111 : Int) < (c : Int)) = false := by simp; omega
          have d3 : decide ((55296 : Int) ≤ (c : Int)) = true := by simp; omega
          have d4 : decide ((c : Int) ≤ 57343) = true := by simp; omega
          clear HD2 q1 q2 q3 q4
          go_wp2_with fail
          rw [HD3.out]
          go_ret2
          exact ⟨rfl, rfl⟩
        · have HD3 : Hid (dec s.data.toList = (c, 3)) := by show _ = _; rw [HD2.out, if_neg (by simp [wrongC]; omega)]
          have d1 : decide ((c : Int) < 2048) = false := by simp; omega
          have d2 : decide ((1114111 : Int) < (c : Int)) = false := by simp; omega
          have d3 : decide ((55296 : Int) ≤ (c : Int)) = true := by simp; omega
          have d4 : decide ((c : Int) ≤ 57343) = false := by simp; omega
          clear HD2 q1 q2 q3 q4
          go_wp2_with fail
          rw [HD3.out]
          go_ret2
          exact ⟨rfl, rfl⟩
        · have HD3 : Hid (dec s.data.toList = (c, 3)) := by show _ = _; rw [HD2.out, if_neg (by simp [wrongC]; omega)]
          have d1 : decide ((c : Int) < 2048) = false := by simp; omega
          have d2 : decide ((1114111 : Int) < (c : Int)) = false := by simp; omega
          have d3 : decide ((55296 : Int) ≤ (c : Int)) = false := by simp; omega
          clear HD2 q1 q2 q3
          go_wp2_with fail
          rw [HD3.out]
          go_ret2
          exact ⟨rfl, rfl⟩

set_option maxHeartbeats 1000000 in
set_option maxRecDepth 100000 in
theorem rrune4 (s : ByteArray) (w : World) (hs : 0 < s.size) (h0 : 240 ≤ byteAt s.data.toList 0) (h1 : byteAt s.data.toList 0 ≤ 244) :
    Calls Tryz.prog 116 #[.string s] w fun e w' => e = .returned (.tuple #[.int .i64 (dec s.data.toList).1, .int .i64 (dec s.data.toList).2]) ∧ w = w' := by
  have hst := fun k => dec_stop4 (l := s.data.toList) h0 h1 (k := k)
  have hfu := dec_full4 (l := s.data.toList) h0 h1
  have hac := accB_le (byteAt s.data.toList 0 - 240) s.data.toList (by omega)
  have hb0 := byte0 s hs
  have Hst := Lib.hid hst
  have Hfu := Lib.hid hfu
  have Hac := Lib.hid hac
  clear hst hfu hac
  have hzz : ¬ s.size = 0 := by omega
  rw [hb0] at h0 h1 Hfu Hac
  clear hb0
  generalize hb : (s[0]).toNat = a at h0 h1 Hfu Hac
  have hidx : s[0].toNat = a := hb
  clear hb
  by_cases hn : s.size < 4
  · have hn2 : (s.size : Int) < 4 := by omega
    have HD : Hid (dec s.data.toList = (65533, 1)) := Hst.out 3 (by omega) (by omega) (contAt_short (by rw [dlen]; omega))
    clear Hst Hfu Hac
    rw [HD.out]
    go_enter Tryz.func116, Tryz.ntmps116
    go_wp2_with fail
    go_ret2
    exact ⟨rfl, rfl⟩
  · have hn2 : ¬ ((s.size : Int) < 4) := by omega
    have hn3 : 4 ≤ s.size := by omega
    go_enter Tryz.func116, Tryz.ntmps116
    go_wp2_with fail
    clear hidx
    go_loop [6, 8] (fun c i => ∃ k : Nat, 1 ≤ k ∧ k ≤ 4 ∧ i = .int .i64 k ∧ c = .int .i64 (accB (a - 240) s.data.toList k) ∧ Hid (∀ m, 1 ≤ m → m < k → isCont s.data.toList m)) (fun _ i => 4 - (intOf i).toNat)
    case atStart => exact ⟨1, by omega, by omega, rfl, by show _ = Value.int .i64 ((a - 240 : Nat) : Int); rw [show ((a - 240 : Nat) : Int) = (a : Int) - 240 from by omega], fun m h1 h2 => by omega⟩
    case round =>
      obtain ⟨k, hk1, hk2, rfl, rfl, HC⟩ := hrel
      have hacc := Hac.out k (by omega)
      by_cases hkn : k < 4
      · have hks : k < s.size := by omega
        have hbk := byteK s k hks
        have Hs := Lib.hid (accB_succ (a - 240) s.data.toList hk1)
        have hbl := byte_lt s.data.toList k
        have HK : Hid (isCont s.data.toList k ↔ (128 ≤ byteAt s.data.toList k ∧ byteAt s.data.toList k ≤ 191)) := Iff.rfl
        have HX : Hid (¬ isCont s.data.toList k → dec s.data.toList = (65533, 1)) := fun h => Hst.out k hk1 hkn (by
          cases hq : contAt s.data.toList k with
          | false => rfl
          | true => exact absurd ((contAt_iff (by rw [dlen]; exact hks)).1 hq) h)
        generalize byteAt s.data.toList k = b at *
        have hidx2 : s[k].toNat = b := hbk.symm
        clear hbk
        generalize accB (a - 240) s.data.toList k = c at *
        have hkz : (0 : Int) ≤ (k : Int) := by omega
        by_cases hb1 : b < 128
        · have HD := HX.out (fun h => by have := HK.out.1 h; omega)
          have HD2 := Lib.hid HD
          clear HD
          go_wp2_with fail
          rw [HD2.out]
          go_ret2
          exact ⟨rfl, rfl⟩
        · by_cases hb2 : 191 < b
          · have HD := HX.out (fun h => by have := HK.out.1 h; omega)
            have HD2 := Lib.hid HD
            clear HD
            have d1 : decide ((b : Int) < 128) = false := by simp; omega
            go_wp2_with fail
            rw [HD2.out]
            go_ret2
            exact ⟨rfl, rfl⟩
          · have d1 : decide ((b : Int) < 128) = false := by simp; omega
            have d2 : decide ((191 : Int) < (b : Int)) = false := by simp; omega
            have hcont := HK.out.2 ⟨by omega, by omega⟩
            go_wp2_with fail
            go_round
            case rel => exact ⟨k + 1, by omega, by omega, by go_num, by rw [Hs.out]; rw [show ((c * 64 + (b - 128) : Nat) : Int) = (c : Int) * 64 + b - 128 from by omega], fun m h3 h4 => (Nat.lt_or_ge m k).elim (fun h5 => HC.out m h3 h5) (fun h5 => by have h6 : m = k := (by omega); rw [h6]; exact hcont)⟩
            case measure => simp [intOf]; omega
      · obtain rfl : k = 4 := by omega
        have HD := Hfu.out (by rw [dlen]; omega) (fun k h1 h2 => HC.out k h1 h2)
        have HD2 := Lib.hid HD
        clear HD Hst Hfu HC
        generalize accB (a - 240) s.data.toList 4 = c at *
        have hw : c < 65536 ∨ (¬ c < 65536 ∧ 1114111 < c) ∨ (¬ c < 65536 ∧ ¬ 1114111 < c ∧ 55296 ≤ c ∧ c ≤ 57343) ∨ (¬ c < 65536 ∧ ¬ 1114111 < c ∧ 55296 ≤ c ∧ ¬ c ≤ 57343) ∨ (¬ c < 65536 ∧ ¬ 1114111 < c ∧ ¬ 55296 ≤ c) := by omega
        rcases hw with q1 | ⟨q1, q2⟩ | ⟨q1, q2, q3, q4⟩ | ⟨q1, q2, q3, q4⟩ | ⟨q1, q2, q3⟩
        · have HD3 : Hid (dec s.data.toList = (65533, 1)) := by show _ = _; rw [HD2.out, if_pos (by simp [wrongC, q1])]
          have d1 : decide ((c : Int) < 65536) = true := by simp; omega
          clear HD2 q1
          go_wp2_with fail
          rw [HD3.out]
          go_ret2
          exact ⟨rfl, rfl⟩
        · have HD3 : Hid (dec s.data.toList = (65533, 1)) := by show _ = _; rw [HD2.out, if_pos (by simp [wrongC, q2])]
          have d1 : decide ((c : Int) < 65536) = false := by simp; omega
          have d2 : decide ((1114111 : Int) < (c : Int)) = true := by simp; omega
          clear HD2 q1 q2
          go_wp2_with fail
          rw [HD3.out]
          go_ret2
          exact ⟨rfl, rfl⟩
        · have HD3 : Hid (dec s.data.toList = (65533, 1)) := by show _ = _; rw [HD2.out, if_pos (by simp [wrongC, q3, q4])]
          have d1 : decide ((c : Int) < 65536) = false := by simp; omega
          have d2 : decide ((1114111 : Int) < (c : Int)) = false := by simp; omega
          have d3 : decide ((55296 : Int) ≤ (c : Int)) = true := by simp; omega
          have d4 : decide ((c : Int) ≤ 57343) = true := by simp; omega
          clear HD2 q1 q2 q3 q4
          go_wp2_with fail
          rw [HD3.out]
          go_ret2
          exact ⟨rfl, rfl⟩
        · have HD3 : Hid (dec s.data.toList = (c, 4)) := by show _ = _; rw [HD2.out, if_neg (by simp [wrongC]; omega)]
          have d1 : decide ((c : Int) < 65536) = false := by simp; omega
          have d2 : decide ((1114111 : Int) < (c : Int)) = false := by simp; omega
          have d3 : decide ((55296 : Int) ≤ (c : Int)) = true := by simp; omega
          have d4 : decide ((c : Int) ≤ 57343) = false := by simp; omega
          clear HD2 q1 q2 q3 q4
          go_wp2_with fail
          rw [HD3.out]
          go_ret2
          exact ⟨rfl, rfl⟩
        · have HD3 : Hid (dec s.data.toList = (c, 4)) := by show _ = _; rw [HD2.out, if_neg (by simp [wrongC]; omega)]
          have d1 : decide ((c : Int) < 65536) = false := by simp; omega
          have d2 : decide ((1114111 : Int) < (c : Int)) = false := by simp; omega
          have d3 : decide ((55296 : Int) ≤ (c : Int)) = false := by simp; omega
          clear HD2 q1 q2 q3
          go_wp2_with fail
          rw [HD3.out]
          go_ret2
          exact ⟨rfl, rfl⟩

set_option maxRecDepth 100000 in
theorem rrune_walk (s : ByteArray) (w : World) (hs : 0 < s.size) :
    Calls Tryz.prog 116 #[.string s] w fun e w' => e = .returned (.tuple #[.int .i64 (dec s.data.toList).1, .int .i64 (dec s.data.toList).2]) ∧ w = w' := by
  have hlt := byte_lt s.data.toList 0
  by_cases h0 : byteAt s.data.toList 0 < 128
  · have HD : Hid (dec s.data.toList = (byteAt s.data.toList 0, 1)) := by show dec _ = _; unfold dec; rw [if_pos h0]
    have hb0 := byte0 s hs
    generalize byteAt s.data.toList 0 = a at *
    have hidx : s[0].toNat = a := hb0.symm
    have hzz : ¬ s.size = 0 := by omega
    clear hb0
    rw [HD.out]
    go_enter Tryz.func116, Tryz.ntmps116
    go_wp2_with fail
    go_ret2
    exact ⟨rfl, rfl⟩
  by_cases h2 : 194 ≤ byteAt s.data.toList 0 ∧ byteAt s.data.toList 0 ≤ 223
  · exact rrune2 s w hs h2.1 h2.2
  by_cases h3 : 224 ≤ byteAt s.data.toList 0 ∧ byteAt s.data.toList 0 ≤ 239
  · exact rrune3 s w hs h3.1 h3.2
  by_cases h4 : 240 ≤ byteAt s.data.toList 0 ∧ byteAt s.data.toList 0 ≤ 244
  · exact rrune4 s w hs h4.1 h4.2
  have HD : Hid (dec s.data.toList = (65533, 1)) := dec_other (by omega) h2 h3 h4 hlt
  have hw : byteAt s.data.toList 0 < 194 ∨ 244 < byteAt s.data.toList 0 := by omega
  have hb0 := byte0 s hs
  generalize byteAt s.data.toList 0 = a at *
  have hidx : s[0].toNat = a := hb0.symm
  have hzz : ¬ s.size = 0 := by omega
  clear hb0 h2 h3 h4
  rw [HD.out]
  rcases hw with q | q
  · have d1 : decide ((194 : Int) ≤ (a : Int)) = false := by simp; omega
    have d2 : decide ((224 : Int) ≤ (a : Int)) = false := by simp; omega
    have d3 : decide ((240 : Int) ≤ (a : Int)) = false := by simp; omega
    go_enter Tryz.func116, Tryz.ntmps116
    go_wp2_with fail
    go_ret2
    exact ⟨rfl, rfl⟩
  · have d1 : decide ((194 : Int) ≤ (a : Int)) = true := by simp; omega
    have d2 : decide ((224 : Int) ≤ (a : Int)) = true := by simp; omega
    have d3 : decide ((240 : Int) ≤ (a : Int)) = true := by simp; omega
    have d4 : decide ((a : Int) ≤ 223) = false := by simp; omega
    have d5 : decide ((a : Int) ≤ 239) = false := by simp; omega
    have d6 : decide ((a : Int) ≤ 244) = false := by simp; omega
    go_enter Tryz.func116, Tryz.ntmps116
    go_wp2_with fail
    go_ret2
    exact ⟨rfl, rfl⟩
end Go.Proofs.YtalklmeejdmifaaGreatDoor
