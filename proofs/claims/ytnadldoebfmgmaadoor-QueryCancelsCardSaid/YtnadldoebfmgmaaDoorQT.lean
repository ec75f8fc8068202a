/-
  THE WALKS of (*query.Sheet).there, get, Get.
-/
import Derived.Test.YtnadldoebfmgmaaDoorQB2
namespace Go.Proofs.YtnadldoebfmgmaaDoor.q
open Go.RowKit

/-- an error by its number -/
def errQ : Int → Value
  | 0 => .nilIface
  | k => .iface 66 (.int .i64 k)
/-- the sheet between two calls: nothing is busy; B: how many runs there may have been -/
structure Sh.Rest (s : Sh) (B : Nat) : Prop where
  ok : s.Ok
  busy : ∀ j, (s.at j).busy = false
  small : s.cs.length ≤ 64
  neg : s.most < 0
  low : -(B : Int) ≤ s.most
  num : ∀ j, I64 (s.at j).n
  runs : ∀ j, 0 ≤ (s.at j).runs ∧ (s.at j).runs ≤ B
theorem phi_le (s : Sh) : s.phi ≤ s.cs.length := by
  unfold Sh.phi
  exact Nat.le_trans List.countP_le_length (by simp)
theorem Sh.Rest.fits {s : Sh} {B : Nat} (h : s.Rest B) (hB : B ≤ 1000000000000000000) : s.Fits := by
  have := h.small
  have := phi_le s
  have := h.low
  refine ⟨by omega, h.neg, by omega, h.num, fun j => ?_⟩
  have := h.runs j
  refine ⟨this.1, ?_⟩
  split <;> omega
theorem Sh.Rest.mono {s : Sh} {B C : Nat} (h : s.Rest B) (hC : B ≤ C) : s.Rest C := by
  have := h.low
  exact ⟨h.ok, h.busy, h.small, h.neg, by omega, h.num, fun j => by have := h.runs j; omega⟩
theorem bring_rest {s : Sh} {B k : Nat} (h : s.Rest B) (hB : B ≤ 1000000000000000000) (hk : k < s.cs.length) : (bringM 65 s k).1.Rest (B + 64) ∧ I64 (bringM 65 s k).2.1 ∧ Gives s k (bringM 65 s k) := by
  have hf := h.fits hB
  have hp := phi_le s
  have hs := h.small
  have g := bring_good 65 s k h.ok hk (by omega)
  have f := bring_fits h.ok hf hk (show s.phi < 65 by omega)
  have m1 := g.most1
  have m2 := g.most2
  have hn := h.neg
  have hl := h.low
  refine ⟨⟨g.ok, fun j => (g.keeps.busy j).trans (h.busy j), by rw [g.keeps.len]; exact hs, by omega, by omega, f.1.num, fun j => ?_⟩, f.2, g⟩
  have h1 := h.runs j
  rcases g.keeps.runs j with e | ⟨e, _⟩ <;> omega

def getM (s : Sh) (k : Int) : Sh × (Int × Int) :=
  if 0 ≤ k ∧ k < s.cs.length then
    ((bringM 65 s k.toNat).1, (if (bringM 65 s k.toNat).2.2 = 0 then (bringM 65 s k.toNat).2.1 else 0, (bringM 65 s k.toNat).2.2))
  else (s, (0, 1))
theorem get_rest {s : Sh} {B : Nat} {k : Int} (h : s.Rest B) (hB : B ≤ 1000000000000000000) : (getM s k).1.Rest (B + 64) ∧ I64 (getM s k).2.1 ∧ Keeps s (getM s k).1 := by
  unfold getM
  by_cases hk : 0 ≤ k ∧ k < s.cs.length
  · rw [if_pos hk]
    obtain ⟨a1, a2, a3⟩ := bring_rest h hB (k := k.toNat) (by omega)
    refine ⟨a1, ?_, a3.keeps⟩
    show I64 (if _ then _ else _)
    split
    · exact a2
    · exact i64_0
  · rw [if_neg hk]
    exact ⟨h.mono (by omega), i64_0, Keeps.refl s⟩

section
variable {N : Nat → Prop} {w : World} {base sp rb rc : Nat} {lk : Int} {ps : List Nat} {vc : Value} {s : Sh}
theorem vc_form (hS : ShAt N w base sp lk ps vc rb rc s) : ∃ A cap, vc = .slice A ps.length cap := own_form hS.cells
set_option maxRecDepth 100000 in
theorem there_yes (hS : ShAt N w base sp lk ps vc rb rc s) (k : Nat) (hk : k < ps.length) :
    Calls Tryd.prog 22 #[.pointer (some ⟨sp, 0, none⟩), .int .i64 k] w fun e w' => e = .returned (.bool true) ∧ w = w' := by
  obtain ⟨A, cap, rfl⟩ := vc_form hS
  have m2 := hS.sheet.cell 2
  simp at m2
  have i1 : (0 : Int) ≤ (k : Int) := by omega
  have i2 : (k : Int) < (ps.length : Int) := by omega
  clear hS
  go_enter Tryd.func22, Tryd.ntmps22
  go_wp2
  go_ret
  exact ⟨by simp, rfl⟩
set_option maxRecDepth 100000 in
theorem there_no (hS : ShAt N w base sp lk ps vc rb rc s) (k : Int) (hk : ¬ (0 ≤ k ∧ k < ps.length)) :
    Calls Tryd.prog 22 #[.pointer (some ⟨sp, 0, none⟩), .int .i64 k] w fun e w' => e = .returned (.bool false) ∧ w = w' := by
  obtain ⟨A, cap, rfl⟩ := vc_form hS
  have m2 := hS.sheet.cell 2
  simp at m2
  clear hS
  by_cases h0 : 0 ≤ k
  · have h1 : decide (k < (ps.length : Int)) = false := by simp; omega
    have hk' : ¬ k < (ps.length : Int) := by omega
    clear hk
    go_enter Tryd.func22, Tryd.ntmps22
    go_wp2
    go_ret
    exact ⟨by simp, rfl⟩
  · have h1 : decide ((0 : Int) ≤ k) = false := by simp; omega
    clear hk
    go_enter Tryd.func22, Tryd.ntmps22
    go_wp2
    go_ret
    exact ⟨rfl, rfl⟩

set_option maxHeartbeats 1000000 in
set_option maxRecDepth 100000 in
theorem get_walk {B : Nat} (hS : ShAt N w base sp lk ps vc rb rc s) (hN : ∀ j, N j → j < w.heap.size) (hz : base ≤ w.heap.size) (hr : s.Rest B) (hB : B ≤ 1000000000000000000) (k : Int) :
    Calls Tryd.prog 23 #[.pointer (some ⟨sp, 0, none⟩), .int .i64 k] w fun e w' => e = .returned (.tuple #[.int .i64 (getM s k).2.1, errQ (getM s k).2.2]) ∧ ShAt N w' base sp lk ps vc rb rc (getM s k).1 ∧ KeepN N w w' ∧ Below base w w' := by
  have hlen := hS.len
  by_cases hk : 0 ≤ k ∧ k < ps.length
  · obtain ⟨n, rfl⟩ := Int.eq_ofNat_of_zero_le hk.1
    have hn : n < ps.length := by omega
    have hg : getM s n = ((bringM 65 s n).1, (if (bringM 65 s n).2.2 = 0 then (bringM 65 s n).2.1 else 0, (bringM 65 s n).2.2)) := by
      unfold getM; rw [if_pos (by omega)]; simp only [Int.toNat_natCast]
    have hp := phi_le s
    have hs := hr.small
    have hb := br_ok 65 N w base sp lk ps vc rb rc s n hS hN hz hr.ok (hr.fits hB) (by omega) (by omega)
    obtain ⟨_, hx64, gx⟩ := bring_rest hr hB (k := n) (by omega)
    have hx7 := gx.err
    rw [hg]
    clear hg gx
    generalize bringM 65 s n = x at *
    have HN := Lib.hid hN
    have HT := Lib.hid (there_yes hS n hn)
    clear hS hN hr hp hs hk hlen
    obtain ⟨x1, xn, xe⟩ := x
    simp only at hx7 hx64 hb
    rcases hx7 with rfl | rfl
    · have HB := Lib.hid hb
      clear hb
      go_enter Tryd.func23, Tryd.ntmps23
      go_wp2_with fail
      refine HT.out.mono ?_
      rintro e w' ⟨rfl, rfl⟩
      go_wp2_with fail
      refine HB.out.mono ?_
      rintro e w2 ⟨rfl, hS2, hk2, hb2, _⟩
      have hz2 := hb2.size
      have HS3 := Lib.hid (hS2.below (w' := w2.alloc (.cells #[.int .i64 xn, .int .i64 0] 68)) ((Below.refl _ _).alloc (Nat.le_refl _) _))
      have HK3 : Hid (KeepN N w (w2.alloc (.cells #[.int .i64 xn, .int .i64 0] 68))) := fun j hj => (Below.heap_alloc w2 _ j (by have := HN.out j hj; omega)).trans (hk2 j hj)
      have hb3 := hb2.alloc (Nat.le_trans hz hz2) (.cells #[.int .i64 xn, .int .i64 0] 68)
      clear hS2 hk2 hb2
      go_wp2_with fail
      go_ret2
      exact ⟨rfl, HS3.out, HK3.out, hb3⟩
    · have HB := Lib.hid hb
      clear hb
      go_enter Tryd.func23, Tryd.ntmps23
      go_wp2_with fail
      refine HT.out.mono ?_
      rintro e w' ⟨rfl, rfl⟩
      go_wp2_with fail
      refine HB.out.mono ?_
      rintro e w2 ⟨rfl, hS2, hk2, hb2, _⟩
      have hz2 := hb2.size
      have HS3 := Lib.hid (hS2.below (w' := w2.alloc (.cells #[.int .i64 xn, .int .i64 7] 68)) ((Below.refl _ _).alloc (Nat.le_refl _) _))
      have HK3 : Hid (KeepN N w (w2.alloc (.cells #[.int .i64 xn, .int .i64 7] 68))) := fun j hj => (Below.heap_alloc w2 _ j (by have := HN.out j hj; omega)).trans (hk2 j hj)
      have hb3 := hb2.alloc (Nat.le_trans hz hz2) (.cells #[.int .i64 xn, .int .i64 7] 68)
      clear hS2 hk2 hb2
      go_wp2_with fail
      go_quiet (fail)
      go_wp2_with fail
      go_ret2
      exact ⟨rfl, HS3.out.drewN _, HK3.out, below_drewN hb3 _⟩
  · have hg : getM s k = (s, (0, 1)) := by unfold getM; rw [if_neg (by rw [← hlen]; exact hk)]
    rw [hg]
    have HT := Lib.hid (there_no hS k hk)
    have HS := Lib.hid hS
    clear hk hlen hg hS hr hN
    go_enter Tryd.func23, Tryd.ntmps23
    go_wp2_with fail
    refine HT.out.mono ?_
    rintro e w' ⟨rfl, rfl⟩
    go_wp2_with fail
    go_ret2
    exact ⟨rfl, HS.out, fun _ _ => rfl, Below.refl _ _⟩
end
end Go.Proofs.YtnadldoebfmgmaaDoor.q
