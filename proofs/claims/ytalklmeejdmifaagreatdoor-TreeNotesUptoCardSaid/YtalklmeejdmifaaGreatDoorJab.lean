/-
  JOINED of the texts Txt Dec LM LP
-/
import Derived.Test.YtalklmeejdmifaaGreatDoorJaa
import Derived.Deep.RegionHeld3
import Derived.Deep.DeepCutAuto
import Derived.Lib.IndexMore
import Derived.Lib.Strings
import Derived.Test.YtalklmeejdmifaaGreatDoorRows
import Derived.WalkKit
import Derived.WalkSpells
import Derived.WalkLawsBesides
import Derived.Below
import Derived.Laws.OwnMore
import Derived.Deep.AppendLies
import Derived.Deep.Draws
import Derived.Lib.Hide
import Derived.Deep.QuietTactic
import Derived.BigQuiet
import Derived.IntWalk
import Derived.Lib.RuneBytes
/-
  ROWS OF TEXTS: what a slice of strings holds; Texts of package amanuensissame.
-/
namespace Go.Proofs.YtalklmeejdmifaaGreatDoor
open Go.RowKit

abbrev Bs := List UInt8
def strV (b : Bs) : Value := .string ⟨b.toArray⟩
def txtV (l : List Bs) : List Value := l.map strV
theorem txtV_len (l : List Bs) : (txtV l).length = l.length := by simp [txtV]
theorem txtV_get (l : List Bs) {k : Nat} (hk : k < l.length) : (txtV l)[k]? = some (strV l[k]) := by
  simp [txtV, List.getElem?_eq_getElem hk]
theorem txtV_one (l : List Bs) : ∀ u ∈ txtV l, u.oneCell' = true := by
  intro u hu
  simp only [txtV, List.mem_map] at hu
  obtain ⟨n, _, rfl⟩ := hu
  rfl
theorem Rd.txt {w : World} {B : Nat} {A : Option Addr} {l : List Bs} {k : Nat} (h : Rd w B 1 A l.length (txtV l)) (hk : k < l.length) :
    ∃ b o, A = some ⟨b, o, none⟩ ∧ b < B ∧ w.cell? ⟨b, o + k, none⟩ = some (strV l[k]) := by
  obtain ⟨b, o, e, hb, hc⟩ := h.2 (by omega)
  exact ⟨b, o, e, hb, hc k _ (txtV_get l hk)⟩
theorem infoStr : (Tryz.prog.info? 9).map (fun i => (i.zero, i.size, i.bytes)) = some (some (.string ⟨#[]⟩), 1, 16) := by kernel_rfl

theorem take_neT {l m : List Bs} {k : Nat} (h1 : k < l.length) (h2 : k < m.length) (hne : l[k] ≠ m[k]) : decide (l = m) = false := by
  apply decide_eq_false
  intro e
  subst e
  exact hne rfl
theorem bytes_ne {a b : Bs} (h : a ≠ b) : ¬ (⟨a.toArray⟩ : ByteArray) = ⟨b.toArray⟩ := fun e => h (by
  have := congrArg (fun x : ByteArray => x.data.toList) e
  simpa using this)

set_option maxHeartbeats 1000000 in
set_option maxRecDepth 100000 in
theorem texts_walk (A A' : Option Addr) (c c' : Nat) (l m : List Bs) (w : World) (h1 : Rd w w.heap.size 1 A l.length (txtV l)) (h2 : Rd w w.heap.size 1 A' m.length (txtV m)) (hl : l.length ≤ 4194304) (hm : m.length ≤ 4194304) :
    Calls Tryz.prog 32 #[.slice A l.length c, .slice A' m.length c'] w fun e w' => e = .returned (.bool (decide (l = m))) ∧ Below w.heap.size w w' := by
  by_cases hlen : l.length = m.length
  · have Hlen := Lib.hid hlen
    have H2 := Lib.hid h2
    clear hlen h2
    have Hm2 : Hid (m.length = l.length) := Hlen.out.symm
    generalize hml : m.length = ml at *
    obtain rfl : ml = l.length := Hm2.out
    have Hml := Lib.hid hml
    clear hml Hm2 Hlen
    generalize hR : decide (l = m) = R
    have HR := Lib.hid hR
    clear hR
    go_enter Tryz.func32, Tryz.ntmps32
    go_wp2
    go_loopw [5] (fun i wr => ∃ k : Nat, k ≤ l.length ∧ i = .int .i64 k ∧ Below w.heap.size w wr ∧ Hid (l.take k = m.take k)) (fun i _ => l.length - (intOf i).toNat)
    case atStart => exact ⟨0, Nat.zero_le _, rfl, Below.refl _ _, rfl⟩
    case round =>
      obtain ⟨k, hk, rfl, hb, Hsm⟩ := hrel
      have hbs := hb.size
      by_cases hlt : k < l.length
      · have hlt2 : k < m.length := by have := Hml.out; omega
        obtain ⟨b, o, rfl, hbB, c0⟩ := Rd.txt (h1.below hb) hlt
        obtain ⟨b', o', rfl, hbB', c0'⟩ := Rd.txt (Rd.below (show Rd w w.heap.size 1 A' m.length (txtV m) by rw [Hml.out]; exact H2.out) hb) hlt2
        have i1 : (0 : Int) ≤ (k : Int) := by omega
        have i2 : (k : Int) < (l.length : Int) := by omega
        have Hst : Hid (l[k] = m[k] → l.take (k + 1) = m.take (k + 1)) := fun h => by
          rw [List.take_succ_eq_append_getElem hlt, List.take_succ_eq_append_getElem hlt2, Hsm.out, h]
        have Hne : Hid (l[k] ≠ m[k] → R = false) := fun h => by rw [← HR.out]; exact take_neT hlt hlt2 h
        unfold strV at c0 c0'
        generalize l[k] = x at *
        generalize m[k] = y at *
        clear hlt2
        by_cases hxy : x = y
        · subst hxy
          go_wp2
          go_quiet (fail)
          go_wp2
          go_roundw
          case rel => exact ⟨k + 1, by omega, by go_num, below_drewN hb _, Hst.out (by simp)⟩
          case measure => simp [intOf]; omega
        · have d1 : (x == y) = false := by simp [hxy]
          go_wp2
          go_quiet (fail)
          go_wp2
          go_ret
          exact ⟨by rw [Hne.out hxy]; rfl, below_drewN hb _⟩
      · obtain rfl : k = l.length := by omega
        go_wp2
        go_ret
        refine ⟨?_, hb⟩
        have : l = m := by
          have := Hsm.out
          rwa [List.take_length, ← Hml.out, List.take_length] at this
        rw [← HR.out, decide_eq_true this]; rfl
  · have hR : decide (l = m) = false := decide_eq_false fun e => hlen (by rw [e])
    rw [hR]
    have d1 : ¬ (l.length : Int) = (m.length : Int) := by omega
    go_enter Tryz.func32, Tryz.ntmps32
    go_wp2
    go_ret
    exact ⟨rfl, Below.refl _ _⟩

theorem ext_str (s : Bs) (a f : Nat) : Value.string ((⟨s.toArray⟩ : ByteArray).extract a f) = strV ((s.take f).drop a) := by
  unfold strV
  congr 1
  rw [← Lib.mk_data ((⟨s.toArray⟩ : ByteArray).extract a f)]
  congr 2
  rw [ext_data]
  simp [List.drop_take]
end Go.Proofs.YtalklmeejdmifaaGreatDoor
/-
  THE PLAIN LAW of characters: what decoding finds at the begin of a text.
-/
namespace Go.Proofs.YtalklmeejdmifaaGreatDoor

def byteAt (l : List UInt8) (k : Nat) : Nat := (l[k]?.getD 0).toNat
def contAt (l : List UInt8) (k : Nat) : Bool := decide (k < l.length) && byteAt l k / 64 == 2
/-- the character that a text begins with, and how many bytes it has -/
def dec (l : List UInt8) : Nat × Nat :=
  if byteAt l 0 < 0x80 then (byteAt l 0, 1)
  else if byteAt l 0 / 32 == 6 && contAt l 1 then
    if (byteAt l 0 % 32) * 64 + byteAt l 1 % 64 ≥ 0x80 then ((byteAt l 0 % 32) * 64 + byteAt l 1 % 64, 2) else (Utf8.runeError, 1)
  else if byteAt l 0 / 16 == 14 && contAt l 1 && contAt l 2 then
    if (byteAt l 0 % 16) * 4096 + (byteAt l 1 % 64) * 64 + byteAt l 2 % 64 ≥ 0x800 && Utf8.valid (((byteAt l 0 % 16) * 4096 + (byteAt l 1 % 64) * 64 + byteAt l 2 % 64 : Nat) : Int) then ((byteAt l 0 % 16) * 4096 + (byteAt l 1 % 64) * 64 + byteAt l 2 % 64, 3) else (Utf8.runeError, 1)
  else if byteAt l 0 / 8 == 30 && contAt l 1 && contAt l 2 && contAt l 3 then
    if (byteAt l 0 % 8) * 262144 + (byteAt l 1 % 64) * 4096 + (byteAt l 2 % 64) * 64 + byteAt l 3 % 64 ≥ 0x10000 && Utf8.valid (((byteAt l 0 % 8) * 262144 + (byteAt l 1 % 64) * 4096 + (byteAt l 2 % 64) * 64 + byteAt l 3 % 64 : Nat) : Int) then ((byteAt l 0 % 8) * 262144 + (byteAt l 1 % 64) * 4096 + (byteAt l 2 % 64) * 64 + byteAt l 3 % 64, 4) else (Utf8.runeError, 1)
  else (Utf8.runeError, 1)

theorem byte_get (s : ByteArray) (pos k : Nat) : (s.get! (pos + k)).toNat = byteAt (s.data.toList.drop pos) k := by
  unfold byteAt
  rw [List.getElem?_drop]
  show (s.data[pos + k]!).toNat = _
  rw [Array.getElem!_eq_getD, Array.getD_eq_getD_getElem?, Array.getElem?_toList]
  rfl
theorem cont_get (s : ByteArray) (pos k : Nat) : (decide (pos + k < s.size) && (s.get! (pos + k)).toNat / 64 == 2) = contAt (s.data.toList.drop pos) k := by
  unfold contAt
  rw [byte_get, List.length_drop, ← Go.Lib.size_eq]
  congr 1
  simp; omega
theorem decode_eq (s : ByteArray) (pos : Nat) : Utf8.decode s pos = dec (s.data.toList.drop pos) := by
  unfold Utf8.decode dec
  simp only [cont_get]
  simp only [byte_get]

theorem cont_lt {l : List UInt8} {k : Nat} (h : contAt l k = true) : k < l.length ∧ byteAt l k / 64 = 2 := by
  unfold contAt at h
  simpa using h
/-- how many bytes: at least one; all but the first go on -/
theorem dec_size (l : List UInt8) : 1 ≤ (dec l).2 ∧ (dec l).2 ≤ 4 ∧ ∀ j, 1 ≤ j → j < (dec l).2 → j < l.length ∧ byteAt l j / 64 = 2 := by
  unfold dec
  split
  · exact ⟨by simp, by simp, fun j h1 h2 => by simp at h2; omega⟩
  split
  · rename_i h
    simp only [Bool.and_eq_true] at h
    have h1 := cont_lt h.2
    split
    · exact ⟨by simp, by simp, fun j h2 h3 => by obtain rfl : j = 1 := by simp at h3; omega
                                                 exact h1⟩
    · exact ⟨by simp, by simp, fun j h1 h2 => by simp at h2; omega⟩
  split
  · rename_i h
    simp only [Bool.and_eq_true] at h
    have h1 := cont_lt h.1.2
    have h2 := cont_lt h.2
    split
    · refine ⟨by simp, by simp, fun j h3 h4 => ?_⟩
      have h5 : j = 1 ∨ j = 2 := by simp at h4; omega
      rcases h5 with rfl | rfl <;> assumption
    · exact ⟨by simp, by simp, fun j h1 h2 => by simp at h2; omega⟩
  split
  · rename_i h
    simp only [Bool.and_eq_true] at h
    have h1 := cont_lt h.1.1.2
    have h2 := cont_lt h.1.2
    have h3 := cont_lt h.2
    split
    · refine ⟨by simp, by simp, fun j h3 h4 => ?_⟩
      have h5 : j = 1 ∨ j = 2 ∨ j = 3 := by simp at h4; omega
      rcases h5 with rfl | rfl | rfl <;> assumption
    · exact ⟨by simp, by simp, fun j h1 h2 => by simp at h2; omega⟩
  · exact ⟨by simp, by simp, fun j h1 h2 => by simp at h2; omega⟩
theorem dec_le (l : List UInt8) (h : l ≠ []) : (dec l).2 ≤ l.length := by
  obtain ⟨h1, h2, h3⟩ := dec_size l
  rcases Nat.lt_or_ge 1 (dec l).2 with h4 | h4
  · have := h3 ((dec l).2 - 1) (by omega) (by omega)
    omega
  · have : 0 < l.length := List.length_pos_iff.2 h
    omega
theorem dec_ten {l : List UInt8} (h : byteAt l 0 = 10) : dec l = (10, 1) := by
  unfold dec
  rw [h]
  simp

theorem byteAt_take {l : List UInt8} {m k : Nat} (h : k < m) : byteAt (l.take m) k = byteAt l k := by
  unfold byteAt
  rw [List.getElem?_take, if_pos h]
theorem contAt_take {l : List UInt8} {m k : Nat} (h : k < m) : contAt (l.take m) k = contAt l k := by
  unfold contAt
  rw [byteAt_take h, List.length_take]
  congr 1
  simp; omega
theorem contAt_over {l : List UInt8} {m : Nat} (h : l.length ≤ m ∨ byteAt l m = 10) : contAt (l.take m) m = false ∧ contAt l m = false := by
  constructor
  · unfold contAt
    rw [List.length_take]
    have : ¬ m < min m l.length := by omega
    simp [this]
  · unfold contAt
    rcases h with h | h
    · have : ¬ m < l.length := by omega
      simp [this]
    · simp [h]
/-- what stands ahead of an end of a line is decoded as if nothing came behind -/
theorem dec_take {l : List UInt8} {m : Nat} (hm : 0 < m) (h : l.length ≤ m ∨ byteAt l m = 10) : dec (l.take m) = dec l := by
  obtain ⟨o1, o2⟩ := contAt_over h
  have b0 := byteAt_take (l := l) hm
  rcases Nat.lt_or_ge 1 m with h1 | h1
  · have b1 := byteAt_take (l := l) h1
    have c1 := contAt_take (l := l) h1
    rcases Nat.lt_or_ge 2 m with h2 | h2
    · have b2 := byteAt_take (l := l) h2
      have c2 := contAt_take (l := l) h2
      rcases Nat.lt_or_ge 3 m with h3 | h3
      · have b3 := byteAt_take (l := l) h3
        have c3 := contAt_take (l := l) h3
        unfold dec
        rw [b0, b1, b2, b3, c1, c2, c3]
      · obtain rfl : m = 3 := by omega
        unfold dec
        rw [b0, b1, b2, c1, c2, o1, o2]
        simp
    · obtain rfl : m = 2 := by omega
      unfold dec
      rw [b0, b1, c1, o1, o2]
      simp
  · obtain rfl : m = 1 := by omega
    unfold dec
    rw [b0, o1, o2]
    simp

/-- a character that is not of one byte is none of the first 128 -/
theorem dec_big {l : List UInt8} (h : 128 ≤ byteAt l 0) : 128 ≤ (dec l).1 := by
  unfold dec
  rw [if_neg (by omega)]
  split
  · split
    · rename_i h; exact h
    · show 128 ≤ Utf8.runeError; decide
  split
  · split
    · rename_i h
      simp only [Bool.and_eq_true, decide_eq_true_eq] at h
      show 128 ≤ _ ; omega
    · show 128 ≤ Utf8.runeError; decide
  split
  · split
    · rename_i h
      simp only [Bool.and_eq_true, decide_eq_true_eq] at h
      show 128 ≤ _ ; omega
    · show 128 ≤ Utf8.runeError; decide
  · show 128 ≤ Utf8.runeError; decide
theorem dec_small {l : List UInt8} (h : byteAt l 0 < 128) : dec l = (byteAt l 0, 1) := by unfold dec; rw [if_pos (by omega)]
end Go.Proofs.YtalklmeejdmifaaGreatDoor
/-
  TOKENS AS FUNCTIONS ON LISTS OF BYTES: what the program's scanner reckons, and the document's.
-/
namespace Go.Proofs.YtalklmeejdmifaaGreatDoor.Lx

def letterB (c : Nat) : Bool := (decide (97 ≤ c) && decide (c ≤ 122) || decide (65 ≤ c) && decide (c ≤ 90) || c == 95) || (decide (192 ≤ c) && decide (c ≤ 591) && (c != 215 && c != 247)) || (decide (880 ≤ c) && decide (c ≤ 1023)) || (decide (1024 ≤ c) && decide (c ≤ 1279))
def digitB (c : Nat) : Bool := decide (48 ≤ c) && decide (c ≤ 57)
def spaceB (c : Nat) : Bool := c == 9 || c == 10 || c == 13 || c == 32
def bothB (c : Nat) : Bool := letterB c || digitB c

/-- how many bytes the characters have with which a text begins and of which p holds -/
def runF (p : Nat → Bool) : Nat → List UInt8 → Nat
  | 0, _ => 0
  | f + 1, l => if l.isEmpty then 0 else if p (dec l).1 then (dec l).2 + runF p f (l.drop (dec l).2) else 0
def run (p : Nat → Bool) (l : List UInt8) : Nat := runF p l.length l

theorem runF_fuel (p : Nat → Bool) : ∀ (f g : Nat) (l : List UInt8), l.length ≤ f → l.length ≤ g → runF p f l = runF p g l
  | 0, 0, _, _, _ => rfl
  | 0, g + 1, l, h, _ => by
    have : l = [] := List.eq_nil_of_length_eq_zero (by omega)
    subst this; simp [runF]
  | f + 1, 0, l, _, h => by
    have : l = [] := List.eq_nil_of_length_eq_zero (by omega)
    subst this; simp [runF]
  | f + 1, g + 1, l, h1, h2 => by
    simp only [runF]
    cases hl : l.isEmpty with
    | true => rfl
    | false =>
      have hd := dec_size l
      rw [runF_fuel p f g (l.drop (dec l).2) (by rw [List.length_drop]; omega) (by rw [List.length_drop]; omega)]
theorem run_nil (p : Nat → Bool) : run p [] = 0 := rfl
theorem run_go (p : Nat → Bool) {l : List UInt8} (hl : l ≠ []) (hp : p (dec l).1 = true) : run p l = (dec l).2 + run p (l.drop (dec l).2) := by
  have hd := dec_size l
  have h0 : 0 < l.length := List.length_pos_iff.2 hl
  unfold run
  obtain ⟨f, hf⟩ : ∃ f, l.length = f + 1 := ⟨l.length - 1, by omega⟩
  rw [hf]
  simp only [runF]
  rw [if_neg (by simpa using hl), if_pos hp, runF_fuel p f (l.drop (dec l).2).length _ (by rw [List.length_drop]; omega) (by omega)]
theorem run_stop (p : Nat → Bool) {l : List UInt8} (hp : p (dec l).1 = false) : run p l = 0 := by
  unfold run
  cases l.length with
  | zero => rfl
  | succ f => simp only [runF]; rw [if_neg (by simp [hp] : ¬ p (dec l).1 = true)]; split <;> rfl
theorem run_le (p : Nat → Bool) : ∀ (n : Nat) (l : List UInt8), l.length = n → run p l ≤ l.length := by
  intro n
  induction n using Nat.strongRecOn with
  | _ n ih =>
    intro l hl
    by_cases h0 : l = []
    · subst h0; simp [run_nil]
    · cases hp : p (dec l).1 with
      | false => rw [run_stop p hp]; omega
      | true =>
        have hd := dec_size l
        have hle := dec_le l h0
        have := ih (l.drop (dec l).2).length (by rw [List.length_drop]; have := List.length_pos_iff.2 h0; omega) _ rfl
        rw [run_go p h0 hp]
        rw [List.length_drop] at this
        omega
/-- of a property of bytes: byte for byte -/
theorem run_ascii (p : Nat → Bool) (h : ∀ c, 128 ≤ c → p c = false) : ∀ l : List UInt8, run p l = (l.takeWhile fun b => p b.toNat).length
  | [] => rfl
  | b :: t => by
    have hb : byteAt (b :: t) 0 = b.toNat := rfl
    rcases Nat.lt_or_ge b.toNat 128 with h1 | h1
    · have hd : dec (b :: t) = (b.toNat, 1) := by rw [dec_small (by rw [hb]; exact h1), hb]
      cases hp : p b.toNat with
      | true =>
        rw [run_go p (by simp) (by rw [hd]; exact hp), hd]
        simp only [List.takeWhile_cons, hp, if_true, List.length_cons, List.drop_succ_cons, List.drop_zero]
        rw [run_ascii p h t]; omega
      | false =>
        rw [run_stop p (by rw [hd]; exact hp)]
        simp [hp]
    · rw [run_stop p (h _ (dec_big (by rw [hb]; exact h1)))]
      simp [h _ h1]

/-- behind the signs that open a remark within d - 1 others: how many bytes to its end -/
def remM : Nat → List UInt8 → Option Nat
  | _, [] => none
  | _, [_] => none
  | d, a :: b :: t =>
    if a = 123 ∧ b = 45 then (remM (d + 1) t).map (· + 2)
    else if a = 45 ∧ b = 125 then (if d = 1 then some 2 else (remM (d - 1) t).map (· + 2))
    else (remM d (b :: t)).map (· + 1)

def hexV (b : UInt8) : Option Nat :=
  if 48 ≤ b.toNat ∧ b.toNat ≤ 57 then some (b.toNat - 48) else if 97 ≤ b.toNat ∧ b.toNat ≤ 102 then some (b.toNat - 87) else if 65 ≤ b.toNat ∧ b.toNat ≤ 70 then some (b.toNat - 55) else none
def hexN (acc : Nat) : List UInt8 → Option Nat
  | [] => some acc
  | b :: t => match hexV b with
    | some d => hexN (acc * 16 + d) t
    | none => none

/-- the code point of an escape behind its \u, and how many bytes it has -/
def codeM (l : List UInt8) : Option (Nat × Nat) :=
  match l with
  | [] => none
  | a :: r =>
    if a ≠ 123 then none else
      if ¬ (125 ∈ r) then none else
        let D := r.takeWhile (· != 125)
        if D.length < 1 ∨ 6 < D.length then none else
          match hexN 0 D with
          | none => none
          | some n => if n > 1114111 ∨ (55296 ≤ n ∧ n ≤ 57343) then none else some (n, D.length + 2)
/-- what an escape stands for, behind its \, and how many bytes it has -/
def escM (l : List UInt8) : Option (Nat × Nat) :=
  match l with
  | [] => none
  | a :: r => if a = 110 then some (10, 1) else if a = 116 then some (9, 1) else if a = 34 ∨ a = 92 then some (a.toNat, 1) else if a = 117 then (codeM r).map fun x => (x.1, x.2 + 1) else none

/-- behind the sign that opens a text: how many bytes to its end; is it closed; are its escapes right -/
def textF : Nat → Bool → List UInt8 → Nat × Bool × Bool
  | 0, r, _ => (0, false, r)
  | f + 1, r, l =>
    match l with
    | [] => (0, false, r)
    | a :: t =>
      if a = 10 then (0, false, r)
      else if a = 34 then (1, true, r)
      else if a = 92 then
        match escM t with
        | some (_, n) => ((textF f r (t.drop n)).1 + (1 + n), (textF f r (t.drop n)).2)
        | none =>
          let n := if t.isEmpty ∨ byteAt t 0 = 10 then 0 else (dec t).2
          ((textF f false (t.drop n)).1 + (1 + n), (textF f false (t.drop n)).2)
      else ((textF f r t).1 + 1, (textF f r t).2)
def textM (l : List UInt8) : Nat × Bool × Bool := textF l.length true l

def twoM (l : List UInt8) : Bool := [61, 62].isPrefixOf l || [61, 61].isPrefixOf l || [43, 43].isPrefixOf l
def signs : List UInt8 := [40, 41, 91, 93, 44, 59, 61, 60, 43, 45, 42, 46, 63]
def signM (l : List UInt8) : Nat := if twoM l then 2 else match l with
  | [] => 0
  | a :: _ => if signs.contains a then 1 else 0

def words : List (List UInt8) := [[117, 115, 101], [97, 115], [112, 117, 98], [100, 101, 102], [108, 101, 116], [105, 110], [105, 102], [116, 104, 101, 110], [101, 108, 115, 101], [102, 117, 110], [116, 114, 117, 101], [102, 97, 108, 115, 101]]
def wordM (l : List UInt8) : Bool := words.contains l

/-- the kind of the token with which a text begins, and how many bytes it has -/
def oneM (l : List UInt8) : Nat × Nat :=
  if spaceB (dec l).1 then (1, run spaceB l)
  else if [45, 45].isPrefixOf l then (2, (l.takeWhile (· != 10)).length)
  else if [123, 45].isPrefixOf l then
    match remM 1 (l.drop 2) with
    | some k => (2, k + 2)
    | none => (8, l.length)
  else if letterB (dec l).1 then (if wordM (l.take (run bothB l)) then 4 else 3, run bothB l)
  else if digitB (dec l).1 then (if run digitB l ≤ 18 then 5 else 8, run digitB l)
  else if (dec l).1 = 34 then (if (textM (l.drop 1)).2.1 ∧ (textM (l.drop 1)).2.2 then 6 else 8, (textM (l.drop 1)).1 + 1)
  else if signM l > 0 then (7, signM l)
  else (8, (dec l).2)

def tokF : Nat → Nat → List UInt8 → List (Nat × Nat × Nat)
  | 0, _, _ => []
  | f + 1, at_, l => if l.isEmpty then [] else ((oneM l).1, at_, (oneM l).2) :: tokF f (at_ + (oneM l).2) (l.drop (oneM l).2)
def tokM (l : List UInt8) : List (Nat × Nat × Nat) := tokF l.length 0 l

end Go.Proofs.YtalklmeejdmifaaGreatDoor.Lx
/-
  THE PLAIN LAW of tokens: how long they are; a text that is not closed ends with its line; character for character or byte for byte.
-/
namespace Go.Proofs.YtalklmeejdmifaaGreatDoor.Lx

theorem remM_le : ∀ (l : List UInt8) (d k : Nat), remM d l = some k → 2 ≤ k ∧ k ≤ l.length
  | [], _, _, h => by simp [remM] at h
  | [_], _, _, h => by simp [remM] at h
  | a :: b :: t, d, k, h => by
    simp only [remM] at h
    split at h
    · rw [Option.map_eq_some_iff] at h
      obtain ⟨j, hj, rfl⟩ := h
      have := remM_le t _ _ hj
      simp only [List.length_cons]; omega
    · split at h
      · split at h
        · injection h with h; subst h; simp
        · rw [Option.map_eq_some_iff] at h
          obtain ⟨j, hj, rfl⟩ := h
          have := remM_le t _ _ hj
          simp only [List.length_cons]; omega
      · rw [Option.map_eq_some_iff] at h
        obtain ⟨j, hj, rfl⟩ := h
        have := remM_le (b :: t) _ _ hj
        simp only [List.length_cons] at this ⊢; omega

theorem hex_no (b : UInt8) (d : Nat) (h : hexV b = some d) : b ≠ 10 ∧ b ≠ 125 ∧ b ≠ 34 ∧ b ≠ 92 ∧ d < 16 := by
  unfold hexV at h
  have hn : ∀ n : Nat, n < 256 → b.toNat ≠ n → b ≠ UInt8.ofNat n := fun n hn h1 e => h1 (by rw [e]; simp [UInt8.toNat_ofNat']; omega)
  split at h
  · injection h with h
    exact ⟨hn 10 (by omega) (by omega), hn 125 (by omega) (by omega), hn 34 (by omega) (by omega), hn 92 (by omega) (by omega), by omega⟩
  · split at h
    · injection h with h
      exact ⟨hn 10 (by omega) (by omega), hn 125 (by omega) (by omega), hn 34 (by omega) (by omega), hn 92 (by omega) (by omega), by omega⟩
    · split at h
      · injection h with h
        exact ⟨hn 10 (by omega) (by omega), hn 125 (by omega) (by omega), hn 34 (by omega) (by omega), hn 92 (by omega) (by omega), by omega⟩
      · cases h
theorem hexN_all : ∀ (l : List UInt8) (a n : Nat), hexN a l = some n → ∀ b ∈ l, ∃ d, hexV b = some d
  | [], _, _, _, b, hb => by simp at hb
  | c :: t, a, n, h, b, hb => by
    simp only [hexN] at h
    cases hc : hexV c with
    | none => rw [hc] at h; simp at h
    | some d =>
      rw [hc] at h
      rcases List.mem_cons.1 hb with rfl | hb
      · exact ⟨d, hc⟩
      · exact hexN_all t _ _ h b hb

theorem take_while_at (r : List UInt8) (h : (125 : UInt8) ∈ r) : ∃ t, r = r.takeWhile (· != 125) ++ 125 :: t := by
  induction r with
  | nil => simp at h
  | cons a r ih =>
    by_cases ha : a = 125
    · subst ha; exact ⟨r, by simp⟩
    · rcases List.mem_cons.1 h with h | h
      · exact absurd h.symm ha
      · obtain ⟨t, ht⟩ := ih h
        refine ⟨t, ?_⟩
        have : (a != 125) = true := by simp [ha]
        rw [List.takeWhile_cons, if_pos this, List.cons_append, ← ht]

/-- an escape lies within its text, and holds no line's end -/
theorem code_le (l : List UInt8) (c n : Nat) (h : codeM l = some (c, n)) : 3 ≤ n ∧ n ≤ l.length ∧ (10 : UInt8) ∉ l.take n := by
  unfold codeM at h
  split at h
  · cases h
  · rename_i a r
    split at h
    · cases h
    · rename_i ha
      split at h
      · cases h
      · rename_i hm
        simp only at h
        split at h
        · cases h
        · rename_i hl
          split at h
          · cases h
          · rename_i m hx
            split at h
            · cases h
            · injection h with h; injection h with h1 h2
              subst h2
              obtain ⟨t, ht⟩ := take_while_at r (by simpa using hm)
              have hlen : (r.takeWhile (· != 125)).length + 1 + t.length = r.length := by
                have := congrArg List.length ht
                simp only [List.length_append, List.length_cons] at this
                omega
              refine ⟨by omega, by simp only [List.length_cons]; omega, ?_⟩
              have e : (a :: r).take ((r.takeWhile (· != 125)).length + 2) = a :: (r.takeWhile (· != 125) ++ [125]) := by
                rw [List.take_succ_cons]
                have h3 : ∀ D t : List UInt8, (D ++ 125 :: t).take (D.length + 1) = D ++ [125] := fun D t => by rw [List.take_append, List.take_of_length_le (by omega)]; simp
                exact congrArg (List.cons a) ((congrArg (List.take _) ht).trans (h3 _ _))
              rw [e]
              have ha' : a = 123 := by simpa using ha
              subst ha'
              intro hmem
              rcases List.mem_cons.1 hmem with h | h
              · exact absurd h (by decide)
              · rcases List.mem_append.1 h with h | h
                · obtain ⟨d, hd⟩ := hexN_all _ _ _ hx _ h
                  exact (hex_no _ _ hd).1 rfl
                · simp at h
theorem esc_le (l : List UInt8) (c n : Nat) (h : escM l = some (c, n)) : 1 ≤ n ∧ n ≤ l.length ∧ (10 : UInt8) ∉ l.take n := by
  unfold escM at h
  split at h
  · cases h
  · rename_i a r
    have one : ∀ x : UInt8, x ≠ 10 → (10 : UInt8) ∉ (x :: r).take 1 := fun x hx hm => by
      simp at hm; exact hx hm.symm
    split at h
    · rename_i ha; injection h with h; injection h with h1 h2; subst h2 ha; exact ⟨by omega, by simp, one _ (by decide)⟩
    · split at h
      · rename_i ha; injection h with h; injection h with h1 h2; subst h2 ha; exact ⟨by omega, by simp, one _ (by decide)⟩
      · split at h
        · rename_i ha; injection h with h; injection h with h1 h2; subst h2
          exact ⟨by omega, by simp, one _ (by rcases ha with rfl | rfl <;> decide)⟩
        · split at h
          · rename_i ha
            subst ha
            rw [Option.map_eq_some_iff] at h
            obtain ⟨⟨c', n'⟩, hc, he⟩ := h
            injection he with h1 h2
            obtain ⟨k1, k2, k3⟩ := code_le r c' n' hc
            simp only at h2
            subst h2
            refine ⟨by omega, by simp only [List.length_cons]; omega, ?_⟩
            rw [List.take_succ_cons]
            intro hm
            rcases List.mem_cons.1 hm with h | h
            · exact absurd h (by decide)
            · exact k3 h
          · cases h

theorem textF_fuel : ∀ (f g : Nat) (r : Bool) (l : List UInt8), l.length ≤ f → l.length ≤ g → textF f r l = textF g r l
  | 0, 0, _, _, _, _ => rfl
  | 0, g + 1, r, l, h, _ => by
    have : l = [] := List.eq_nil_of_length_eq_zero (by omega)
    subst this; simp [textF]
  | f + 1, 0, r, l, _, h => by
    have : l = [] := List.eq_nil_of_length_eq_zero (by omega)
    subst this; simp [textF]
  | f + 1, g + 1, r, l, h1, h2 => by
    simp only [textF]
    split
    · rfl
    · rename_i a t
      simp only [List.length_cons] at h1 h2
      have hd : ∀ n (b : Bool), textF f b (t.drop n) = textF g b (t.drop n) := fun n b => textF_fuel f g b _ (by rw [List.length_drop]; omega) (by rw [List.length_drop]; omega)
      split
      · rfl
      · split
        · rfl
        · split
          · split
            · rw [hd]
            · simp only [hd]
          · have := hd 0 r
            rw [List.drop_zero] at this
            rw [this]

def textR (r : Bool) (l : List UInt8) : Nat × Bool × Bool := textF l.length r l
theorem textR_nil (r : Bool) : textR r [] = (0, false, r) := rfl
theorem textR_end (r : Bool) (t : List UInt8) : textR r (10 :: t) = (0, false, r) := by simp [textR, textF]
theorem textR_shut (r : Bool) (t : List UInt8) : textR r (34 :: t) = (1, true, r) := by simp [textR, textF]
theorem textR_plain (r : Bool) (a : UInt8) (t : List UInt8) (h1 : a ≠ 10) (h2 : a ≠ 34) (h3 : a ≠ 92) : textR r (a :: t) = ((textR r t).1 + 1, (textR r t).2) := by
  simp only [textR, List.length_cons, textF, if_neg h1, if_neg h2, if_neg h3]
theorem textR_esc (r : Bool) (t : List UInt8) (c n : Nat) (h : escM t = some (c, n)) : textR r (92 :: t) = ((textR r (t.drop n)).1 + (1 + n), (textR r (t.drop n)).2) := by
  have e : textF t.length r (t.drop n) = textF (t.drop n).length r (t.drop n) := textF_fuel _ _ _ _ (by rw [List.length_drop]; omega) (Nat.le_refl _)
  simp only [textR, List.length_cons, textF, if_neg (by decide : ¬ (92 : UInt8) = 10), if_neg (by decide : ¬ (92 : UInt8) = 34), if_true, h, e]
theorem textR_bad (r : Bool) (t : List UInt8) (h : escM t = none) (n : Nat) (hn : n = if t.isEmpty ∨ byteAt t 0 = 10 then 0 else (dec t).2) : textR r (92 :: t) = ((textR false (t.drop n)).1 + (1 + n), (textR false (t.drop n)).2) := by
  have e : textF t.length false (t.drop n) = textF (t.drop n).length false (t.drop n) := textF_fuel _ _ _ _ (by rw [List.length_drop]; omega) (Nat.le_refl _)
  simp only [textR, List.length_cons, textF, if_neg (by decide : ¬ (92 : UInt8) = 10), if_neg (by decide : ¬ (92 : UInt8) = 34), if_true, h, ← hn, e]

/-- the bytes of a character behind its first one -/
theorem dec_rest (l : List UInt8) (j : Nat) (h1 : 1 ≤ j) (h2 : j < (dec l).2) : ∃ b, l[j]? = some b ∧ b ≠ 10 ∧ b ≠ 34 ∧ b ≠ 92 := by
  obtain ⟨h3, h4⟩ := (dec_size l).2.2 j h1 h2
  have hb : l[j]? = some l[j] := List.getElem?_eq_getElem h3
  refine ⟨l[j], hb, ?_⟩
  have : byteAt l j = l[j].toNat := by unfold byteAt; rw [hb]; rfl
  rw [this] at h4
  refine ⟨?_, ?_, ?_⟩ <;> intro e <;> rw [e] at h4 <;> simp at h4

/-- a row of plain bytes -/
theorem textR_many (r : Bool) : ∀ (n : Nat) (l : List UInt8), (∀ j, j < n → ∃ b, l[j]? = some b ∧ b ≠ 10 ∧ b ≠ 34 ∧ b ≠ 92) → textR r l = ((textR r (l.drop n)).1 + n, (textR r (l.drop n)).2)
  | 0, l, _ => by simp
  | n + 1, l, h => by
    obtain ⟨b, hb, h1, h2, h3⟩ := h 0 (by omega)
    cases l with
    | nil => simp at hb
    | cons a t =>
      simp at hb; subst hb
      rw [textR_plain r a t h1 h2 h3, textR_many r n t (fun j hj => by simpa using h (j + 1) (by omega))]
      simp only [List.drop_succ_cons]
      rw [Nat.add_assoc]

theorem textR_char (r : Bool) (l : List UInt8) (h : ∃ b, l[0]? = some b ∧ b ≠ 10 ∧ b ≠ 34 ∧ b ≠ 92) : textR r l = ((textR r (l.drop (dec l).2)).1 + (dec l).2, (textR r (l.drop (dec l).2)).2) :=
  textR_many r _ l fun j hj => by
    rcases Nat.eq_zero_or_pos j with rfl | hj0
    · exact h
    · exact dec_rest l j hj0 hj

theorem tw_skip (n : Nat) (l : List UInt8) (hn : n ≤ l.length) (h : (10 : UInt8) ∉ l.take n) : (l.takeWhile (· != 10)).length = n + ((l.drop n).takeWhile (· != 10)).length := by
  induction n generalizing l with
  | zero => simp
  | succ n ih =>
    cases l with
    | nil => simp at hn
    | cons a t =>
      rw [List.take_succ_cons, List.mem_cons, not_or] at h
      have ha : (a != 10) = true := by simp; exact fun e => h.1 e.symm
      rw [List.takeWhile_cons, if_pos ha, List.length_cons, List.drop_succ_cons, ih t (by simpa using hn) h.2]
      omega

/-- a text that is not closed ends with its line; what is taken lies within -/
theorem textR_line : ∀ (n : Nat) (l : List UInt8) (r : Bool), l.length = n → (textR r l).1 ≤ l.length ∧ ((textR r l).2.1 = false → (textR r l).1 = (l.takeWhile (· != 10)).length) ∧ ((textR r l).2.1 = true → 1 ≤ (textR r l).1) := by
  intro n
  induction n using Nat.strongRecOn with
  | _ n ih =>
    intro l r hl
    cases l with
    | nil => simp [textR_nil]
    | cons a t =>
      simp only [List.length_cons] at hl
      by_cases h1 : a = 10
      · subst h1; rw [textR_end]; simp
      · by_cases h2 : a = 34
        · subst h2; rw [textR_shut]; simp
        · by_cases h3 : a = 92
          · subst h3
            have key : ∀ (k : Nat) (b : Bool), k ≤ t.length → (10 : UInt8) ∉ t.take k → textR r (92 :: t) = ((textR b (t.drop k)).1 + (1 + k), (textR b (t.drop k)).2) → _ := fun k b hk hno he => by
              obtain ⟨i1, i2, i3⟩ := ih (t.drop k).length (by rw [List.length_drop]; omega) (t.drop k) b rfl
              have hw := tw_skip k t hk hno
              show (textR r (92 :: t)).1 ≤ (92 :: t).length ∧ ((textR r (92 :: t)).2.1 = false → (textR r (92 :: t)).1 = ((92 :: t).takeWhile (· != 10)).length) ∧ ((textR r (92 :: t)).2.1 = true → 1 ≤ (textR r (92 :: t)).1)
              rw [he]
              rw [List.length_drop] at i1
              refine ⟨by simp only [List.length_cons]; omega, fun hf => ?_, fun _ => by simp only; omega⟩
              rw [List.takeWhile_cons, if_pos (by decide), List.length_cons, hw, ← i2 hf]
              simp only; omega
            cases he : escM t with
            | some x =>
              obtain ⟨c, k⟩ := x
              obtain ⟨k1, k2, k3⟩ := esc_le t c k he
              exact key k r k2 k3 (textR_esc r t c k he)
            | none =>
              refine key (if t.isEmpty ∨ byteAt t 0 = 10 then 0 else (dec t).2) false ?_ ?_ (textR_bad r t he _ rfl)
              · split
                · omega
                · rename_i h; exact dec_le t (by intro e; exact h (Or.inl (by rw [e]; rfl)))
              · split
                · simp
                · rename_i h
                  intro hm
                  obtain ⟨j, hj, hjb⟩ := List.getElem_of_mem hm
                  rw [List.length_take] at hj
                  rw [List.getElem_take] at hjb
                  rcases Nat.eq_zero_or_pos j with rfl | hj0
                  · refine h (Or.inr ?_)
                    unfold byteAt
                    rw [List.getElem?_eq_getElem (by omega), hjb]; rfl
                  · obtain ⟨b, hb, hb1, _⟩ := dec_rest t j hj0 (by omega)
                    rw [List.getElem?_eq_getElem (by omega), hjb] at hb
                    injection hb with hb
                    exact hb1 hb.symm
          · obtain ⟨i1, i2, i3⟩ := ih t.length (by omega) t r rfl
            rw [textR_plain r a t h1 h2 h3]
            refine ⟨by simp only [List.length_cons]; omega, fun hf => ?_, fun _ => by simp only; omega⟩
            have ha : (a != 10) = true := by simp [h1]
            rw [List.takeWhile_cons, if_pos ha, List.length_cons, ← i2 hf]

theorem prefix_two {a b : UInt8} {l : List UInt8} (h : [a, b].isPrefixOf l = true) : ∃ t, l = a :: b :: t := by
  rcases l with _ | ⟨x, _ | ⟨y, t⟩⟩
  · simp [List.isPrefixOf] at h
  · simp [List.isPrefixOf] at h
  · simp [List.isPrefixOf] at h
    exact ⟨t, by rw [h.1, h.2]⟩

theorem run_pos (p : Nat → Bool) {l : List UInt8} (hl : l ≠ []) (hp : p (dec l).1 = true) : 1 ≤ run p l := by
  rw [run_go p hl hp]
  have := (dec_size l).1
  omega

/-- a token has at least one byte, lies within its text, and is of a kind from 1 to 8 -/
theorem one_le (l : List UInt8) (hl : l ≠ []) : 1 ≤ (oneM l).2 ∧ (oneM l).2 ≤ l.length ∧ 1 ≤ (oneM l).1 ∧ (oneM l).1 ≤ 8 := by
  have h0 : 0 < l.length := List.length_pos_iff.2 hl
  unfold oneM
  split
  · rename_i h
    exact ⟨run_pos _ hl h, run_le _ _ l rfl, by simp, by simp⟩
  split
  · rename_i h
    obtain ⟨t, rfl⟩ := prefix_two h
    refine ⟨?_, ?_, by simp, by simp⟩
    · simp
    · exact (List.takeWhile_sublist _).length_le
  split
  · rename_i h
    obtain ⟨t, rfl⟩ := prefix_two h
    split
    · rename_i k hk
      have := remM_le _ _ _ hk
      simp only [List.drop_succ_cons, List.drop_zero, List.length_cons] at this ⊢
      omega
    · exact ⟨h0, Nat.le_refl _, by simp, by simp⟩
  split
  · rename_i h
    refine ⟨run_pos _ hl (by unfold bothB; rw [h]; rfl), run_le _ _ l rfl, ?_, ?_⟩ <;> simp only <;> split <;> omega
  split
  · rename_i h
    refine ⟨run_pos _ hl h, run_le _ _ l rfl, ?_, ?_⟩ <;> simp only <;> split <;> omega
  split
  · have h1 := (textR_line _ (l.drop 1) true rfl).1
    rw [List.length_drop] at h1
    have e : textM (l.drop 1) = textR true (l.drop 1) := rfl
    rw [e]
    refine ⟨by simp only; omega, by simp only; omega, ?_, ?_⟩ <;> simp only <;> split <;> omega
  split
  · rename_i h
    refine ⟨h, ?_, by simp, by simp⟩
    unfold signM
    split
    · rename_i h2
      have : ∃ a b t, l = a :: b :: t := by
        unfold twoM at h2
        simp only [Bool.or_eq_true] at h2
        rcases h2 with (h2 | h2) | h2 <;> (obtain ⟨t, rfl⟩ := prefix_two h2; exact ⟨_, _, t, rfl⟩)
      obtain ⟨a, b, t, rfl⟩ := this
      simp
    · split
      · simp
      · split <;> simp
  · exact ⟨(dec_size l).1, dec_le l hl, by simp, by simp⟩

theorem tokF_fuel : ∀ (f g at_ : Nat) (l : List UInt8), l.length ≤ f → l.length ≤ g → tokF f at_ l = tokF g at_ l
  | 0, 0, _, _, _, _ => rfl
  | 0, g + 1, _, l, h, _ => by
    have : l = [] := List.eq_nil_of_length_eq_zero (by omega)
    subst this; simp [tokF]
  | f + 1, 0, _, l, _, h => by
    have : l = [] := List.eq_nil_of_length_eq_zero (by omega)
    subst this; simp [tokF]
  | f + 1, g + 1, at_, l, h1, h2 => by
    simp only [tokF]
    cases hl : l.isEmpty with
    | true => rfl
    | false =>
      have := (one_le l (by intro e; rw [e] at hl; simp at hl)).1
      rw [tokF_fuel f g _ (l.drop (oneM l).2) (by rw [List.length_drop]; omega) (by rw [List.length_drop]; omega)]
/-- the tokens from a place on -/
def tokR (at_ : Nat) (l : List UInt8) : List (Nat × Nat × Nat) := tokF l.length at_ l
theorem tokR_nil (at_ : Nat) : tokR at_ [] = [] := rfl
theorem tokR_cons (at_ : Nat) {l : List UInt8} (hl : l ≠ []) : tokR at_ l = ((oneM l).1, at_, (oneM l).2) :: tokR (at_ + (oneM l).2) (l.drop (oneM l).2) := by
  have h0 : 0 < l.length := List.length_pos_iff.2 hl
  have h1 := (one_le l hl).1
  unfold tokR
  obtain ⟨f, hf⟩ : ∃ f, l.length = f + 1 := ⟨l.length - 1, by omega⟩
  rw [hf]
  simp only [tokF]
  rw [if_neg (by simpa using hl), tokF_fuel f (l.drop (oneM l).2).length _ _ (by rw [List.length_drop]; omega) (Nat.le_refl _)]

end Go.Proofs.YtalklmeejdmifaaGreatDoor.Lx
