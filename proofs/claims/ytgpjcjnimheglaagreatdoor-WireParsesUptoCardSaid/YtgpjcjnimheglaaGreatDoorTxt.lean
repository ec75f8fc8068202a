/-
  ROWS OF TEXTS: what a slice of strings holds; Texts of package amanuensissame.
-/
import Derived.Test.YtgpjcjnimheglaaGreatDoorBase
import Derived.Deep.RegionHeld3
import Derived.Deep.DeepCutAuto
import Derived.Lib.IndexMore
import Derived.Lib.Strings
namespace Go.Proofs.YtgpjcjnimheglaaGreatDoor
open Go.RowKit

abbrev Bs := List UInt8
def strV (b : Bs) : Value := .string ⟨b.toArray⟩
def txtV (l : List Bs) : List Value := l.map strV
theorem txtV_len (l : List Bs) : (txtV l).length = l.length := by simp [txtV]
theorem txtV_get (l : List Bs) {k : Nat} (hk : k < l.length) : (txtV l)[k]? = some (strV l[k]) := by
  simp [txtV, List.getElem?_eq_getElem hk]
theorem txtV_one (l : List Bs) : ∀ u ∈ txtV l, u.oneCell' = true := by
  intro u hu
  simp only [txtV, List.mem_map] at hu
  obtain ⟨n, _, rfl⟩ := hu
  rfl
theorem Rd.txt {w : World} {B : Nat} {A : Option Addr} {l : List Bs} {k : Nat} (h : Rd w B 1 A l.length (txtV l)) (hk : k < l.length) :
    ∃ b o, A = some ⟨b, o, none⟩ ∧ b < B ∧ w.cell? ⟨b, o + k, none⟩ = some (strV l[k]) := by
  obtain ⟨b, o, e, hb, hc⟩ := h.2 (by omega)
  exact ⟨b, o, e, hb, hc k _ (txtV_get l hk)⟩
theorem infoStr : (Tryz.prog.info? 9).map (fun i => (i.zero, i.size, i.bytes)) = some (some (.string ⟨#[]⟩), 1, 16) := by kernel_rfl

theorem take_neT {l m : List Bs} {k : Nat} (h1 : k < l.length) (h2 : k < m.length) (hne : l[k] ≠ m[k]) : decide (l = m) = false := by
  apply decide_eq_false
  intro e
  subst e
  exact hne rfl
theorem bytes_ne {a b : Bs} (h : a ≠ b) : ¬ (⟨a.toArray⟩ : ByteArray) = ⟨b.toArray⟩ := fun e => h (by
  have := congrArg (fun x : ByteArray => x.data.toList) e
  simpa using this)

set_option maxHeartbeats 1000000 in
set_option maxRecDepth 100000 in
theorem texts_walk (A A' : Option Addr) (c c' : Nat) (l m : List Bs) (w : World) (h1 : Rd w w.heap.size 1 A l.length (txtV l)) (h2 : Rd w w.heap.size 1 A' m.length (txtV m)) (hl : l.length ≤ 4194304) (hm : m.length ≤ 4194304) :
    Calls Tryz.prog 62 #[.slice A l.length c, .slice A' m.length c'] w fun e w' => e = .returned (.bool (decide (l = m))) ∧ Below w.heap.size w w' := by
  by_cases hlen : l.length = m.length
  · have Hlen := Lib.hid hlen
    have H2 := Lib.hid h2
    clear hlen h2
    have Hm2 : Hid (m.length = l.length) := Hlen.out.symm
    generalize hml : m.length = ml at *
    obtain rfl : ml = l.length := Hm2.out
    have Hml := Lib.hid hml
    clear hml Hm2 Hlen
    generalize hR : decide (l = m) = R
    have HR := Lib.hid hR
    clear hR
    go_enter Tryz.func62, Tryz.ntmps62
    go_wp2
    go_loopw [5] (fun i wr => ∃ k : Nat, k ≤ l.length ∧ i = .int .i64 k ∧ Below w.heap.size w wr ∧ Hid (l.take k = m.take k)) (fun i _ => l.length - (intOf i).toNat)
    case atStart => exact ⟨0, Nat.zero_le _, rfl, Below.refl _ _, rfl⟩
    case round =>
      obtain ⟨k, hk, rfl, hb, Hsm⟩ := hrel
      have hbs := hb.size
      by_cases hlt : k < l.length
      · have hlt2 : k < m.length := by have := Hml.out; omega
        obtain ⟨b, o, rfl, hbB, c0⟩ := Rd.txt (h1.below hb) hlt
        obtain ⟨b', o', rfl, hbB', c0'⟩ := Rd.txt (Rd.below (show Rd w w.heap.size 1 A' m.length (txtV m) by rw [Hml.out]; exact H2.out) hb) hlt2
        have i1 : (0 : Int) ≤ (k : Int) := by omega
        have i2 : (k : Int) < (l.length : Int) := by omega
        have Hst : Hid (l[k] = m[k] → l.take (k + 1) = m.take (k + 1)) := fun h => by
          rw [List.take_succ_eq_append_getElem hlt, List.take_succ_eq_append_getElem hlt2, Hsm.out, h]
        have Hne : Hid (l[k] ≠ m[k] → R = false) := fun h => by rw [← HR.out]; exact take_neT hlt hlt2 h
        unfold strV at c0 c0'
        generalize l[k] = x at *
        generalize m[k] = y at *
        clear hlt2
        by_cases hxy : x = y
        · subst hxy
          go_wp2
          go_quiet (fail)
          go_wp2
          go_roundw
          case rel => exact ⟨k + 1, by omega, by go_num, below_drewN hb _, Hst.out (by simp)⟩
          case measure => simp [intOf]; omega
        · have d1 : (x == y) = false := by simp [hxy]
          go_wp2
          go_quiet (fail)
          go_wp2
          go_ret
          exact ⟨by rw [Hne.out hxy]; rfl, below_drewN hb _⟩
      · obtain rfl : k = l.length := by omega
        go_wp2
        go_ret
        refine ⟨?_, hb⟩
        have : l = m := by
          have := Hsm.out
          rwa [List.take_length, ← Hml.out, List.take_length] at this
        rw [← HR.out, decide_eq_true this]; rfl
  · have hR : decide (l = m) = false := decide_eq_false fun e => hlen (by rw [e])
    rw [hR]
    have d1 : ¬ (l.length : Int) = (m.length : Int) := by omega
    go_enter Tryz.func62, Tryz.ntmps62
    go_wp2
    go_ret
    exact ⟨rfl, Below.refl _ _⟩

theorem ext_str (s : Bs) (a f : Nat) : Value.string ((⟨s.toArray⟩ : ByteArray).extract a f) = strV ((s.take f).drop a) := by
  unfold strV
  congr 1
  rw [← Lib.mk_data ((⟨s.toArray⟩ : ByteArray).extract a f)]
  congr 2
  rw [ext_data]
  simp [List.drop_take]
end Go.Proofs.YtgpjcjnimheglaaGreatDoor
