/-
  THE WALKS of edit.Merge, lives.
-/
import Derived.Test.YtffcfnnbdmihaaaDoorPlainMath
namespace Go.Proofs.YtffcfnnbdmihaaaDoor
open Go.RowKit

set_option maxRecDepth 100000 in
theorem merge_bad (n : Int) (A1 : Option Addr) (c1 : Nat) (a : List Sp) (A2 : Option Addr) (c2 : Nat) (b : List Sp) (w : World) (hr1 : Rd w w.heap.size 3 A1 a.length (spCells a)) (hr2 : Rd w w.heap.size 3 A2 b.length (spCells b))
    (hl1 : a.length ≤ 1048576) (hl2 : b.length ≤ 1048576) (f : Nat) (hf : f = 1 ∨ f = 2) (hbad : fault n a = f ∨ (fault n a = 0 ∧ fault n b = f)) :
    Calls Tryd.prog 35 #[.int .i64 n, .slice A1 a.length c1, .slice A2 b.length c2] w fun e w' => e = .returned (.tuple #[.slice none 0 0, .slice none 0 0, errV f]) ∧ Below w.heap.size w w' := by
  obtain ⟨v, hv⟩ : ∃ v : Int, errV f = .iface 97 (.int .i64 v) := by rcases hf with h | h <;> rw [h] <;> exact ⟨_, rfl⟩
  have Hv := Lib.hid hv
  clear hv
  rcases hbad with h1 | ⟨h1, h2⟩
  · have H1 := Lib.hid h1
    clear h1
    go_enter Tryd.func35, Tryd.ntmps35
    go_wp2_with fail
    refine (fault_walk _ _ _ _ _ hr1 hl1).mono ?_
    rw [H1.out, Hv.out]
    rintro e w1 ⟨rfl, hb1⟩
    go_wp2
    go_ret3
    exact ⟨by rw [Hv.out]; rfl, hb1⟩
  · have H1 := Lib.hid h1
    have H2 := Lib.hid h2
    clear h1 h2
    go_enter Tryd.func35, Tryd.ntmps35
    go_wp2_with fail
    refine (fault_walk _ _ _ _ _ hr1 hl1).mono ?_
    rw [H1.out, show errV 0 = .nilIface from rfl]
    rintro e w1 ⟨rfl, hb1⟩
    go_wp2_with fail
    refine (fault_walk _ _ _ _ _ ((hr2.below hb1).more hb1.size) hl2).mono ?_
    rw [H2.out, Hv.out]
    rintro e w2 ⟨rfl, hb2⟩
    go_wp2
    go_ret3
    exact ⟨by rw [Hv.out]; rfl, hb1.trans (hb2.mono hb1.size)⟩

theorem behindL_bytes (a b : List Sp) (first : Bool) : spBytes (behindL a b first) ≤ spBytes a := by
  have hd : ∀ (n : Nat) (st from_ : Int), spBytes (delsL b st n from_) = 0 := by
    intro n
    induction n with
    | zero => intros; rfl
    | succ n ih =>
      intro st from_
      simp only [delsL]
      split
      · have := ih st (cutL from_ st b).1
        split
        · simpa using this
        · simp only [List.cons_append, List.nil_append]
          have e : ∀ (x : Sp) r, spBytes (x :: r) = x.s.size + spBytes r := fun x r => by simp [spBytes]
          rw [e, this]; rfl
      · rfl
  have ha : ∀ x y : List Sp, spBytes (x ++ y) = spBytes x + spBytes y := fun x y => by simp [spBytes]
  induction a with
  | nil => simp [behindL, spBytes]
  | cons s r ih =>
    have e : behindL (s :: r) b first = (insL b first s ++ delsL b s.t (s.t - s.f).toNat s.f) ++ behindL r b first := by simp [behindL]
    have e2 : spBytes (s :: r) = s.s.size + spBytes r := by simp [spBytes]
    rw [e, ha, ha, hd, e2]
    have : spBytes (insL b first s) ≤ s.s.size := by
      unfold insL
      split
      · simp [spBytes]
      · simp [spBytes]
    omega

theorem delsL_len (b : List Sp) : ∀ (n : Nat) (st from_ : Int), (delsL b st n from_).length ≤ n := by
  intro n
  induction n with
  | zero => intros; exact Nat.le_refl _
  | succ n ih =>
    intro st from_
    simp only [delsL]
    split
    · have := ih st (cutL from_ st b).1
      split
      · simp; omega
      · simp; omega
    · simp
theorem behindL_len {n : Int} {a : List Sp} (b : List Sp) (first : Bool) : ∀ {g : Int}, Chain n g a → ((behindL a b first).length : Int) ≤ a.length + (n - g) := by
  induction a with
  | nil => intro g h; have : g ≤ n := h; simp [behindL]; omega
  | cons s r ih =>
    intro g h
    obtain ⟨h1, h2, h3, h4⟩ := h
    have := ih h4
    have hd := delsL_len b (s.t - s.f).toNat s.t s.f
    have e : behindL (s :: r) b first = (insL b first s ++ delsL b s.t (s.t - s.f).toNat s.f) ++ behindL r b first := by simp [behindL]
    have hi : (insL b first s).length ≤ 1 := by unfold insL; split <;> simp
    rw [e, List.length_append, List.length_append, List.length_cons]
    omega

set_option maxRecDepth 100000 in
theorem merge_ok (n : Int) (A1 : Option Addr) (c1 : Nat) (a : List Sp) (A2 : Option Addr) (c2 : Nat) (b : List Sp) (w : World) (hr1 : Rd w w.heap.size 3 A1 a.length (spCells a)) (hr2 : Rd w w.heap.size 3 A2 b.length (spCells b))
    (hn : n ≤ 1048576) (hl1 : a.length + spBytes a ≤ 1048576) (hl2 : b.length + spBytes b ≤ 1048576) (h1 : fault n a = 0) (h2 : fault n b = 0) :
    Calls Tryd.prog 35 #[.int .i64 n, .slice A1 a.length c1, .slice A2 b.length c2] w fun e w' => ∃ X cx Y cy,
      e = .returned (.tuple #[.slice X (behindL (plainL a) (plainL b) true).length cx, .slice Y (behindL (plainL b) (plainL a) false).length cy, .nilIface]) ∧
      Rd w' w'.heap.size 3 X (behindL (plainL a) (plainL b) true).length (spCells (behindL (plainL a) (plainL b) true)) ∧ Rd w' w'.heap.size 3 Y (behindL (plainL b) (plainL a) false).length (spCells (behindL (plainL b) (plainL a) false)) ∧ Below w.heap.size w w' := by
  have hwa := within_of_chain hn (Int.le_refl 0) (plainL_spec (fault_zero h1).2).1
  have hwb := within_of_chain hn (Int.le_refl 0) (plainL_spec (fault_zero h2).2).1
  have hpa := plainL_le a
  have hpb := plainL_le b
  have H1 := Lib.hid h1
  have H2 := Lib.hid h2
  clear h1 h2
  go_enter Tryd.func35, Tryd.ntmps35
  go_wp2_with fail
  refine (fault_walk _ _ _ _ _ hr1 (by omega)).mono ?_
  rw [H1.out, show errV 0 = .nilIface from rfl]
  rintro e w1 ⟨rfl, hb1⟩
  go_wp2_with fail
  refine (fault_walk _ _ _ _ _ ((hr2.below hb1).more hb1.size) (by omega)).mono ?_
  rw [H2.out, show errV 0 = .nilIface from rfl]
  rintro e w2 ⟨rfl, hb2⟩
  have hb12 := hb1.trans (hb2.mono hb1.size)
  go_wp2_with fail
  refine (plain_walk _ _ _ _ ((hr1.below hb12).more hb12.size) (by omega)).mono ?_
  rintro e w3 ⟨va, rfl, howna, hb3⟩
  have hb13 := hb12.trans (hb3.mono hb12.size)
  obtain ⟨PA, ca, rfl⟩ := own_form howna
  have hra := Rd.of_own howna
  go_wp2_with fail
  refine (plain_walk _ _ _ _ ((hr2.below hb13).more hb13.size) (by omega)).mono ?_
  rintro e w4 ⟨vb, rfl, hownb, hb4⟩
  have hb14 := hb13.trans (hb4.mono hb13.size)
  obtain ⟨PB, cb, rfl⟩ := own_form hownb
  have hrb := Rd.of_own hownb
  have hra4 := (hra.below hb4).more hb4.size
  go_wp2_with fail
  refine (behind_walk _ _ _ _ _ _ true _ hra4 hrb (by omega) (by omega) hwa hwb).mono ?_
  rintro e w5 ⟨vx, rfl, hownx, hb5⟩
  have hb15 := hb14.trans (hb5.mono hb14.size)
  obtain ⟨PX, cx, rfl⟩ := own_form hownx
  have hrx := Rd.of_own hownx
  have hra5 := (hra4.below hb5).more hb5.size
  have hrb5 := (hrb.below hb5).more hb5.size
  go_wp2_with fail
  refine (behind_walk _ _ _ _ _ _ false _ hrb5 hra5 (by omega) (by omega) hwb hwa).mono ?_
  rintro e w6 ⟨vy, rfl, howny, hb6⟩
  obtain ⟨PY, cy, rfl⟩ := own_form howny
  have hry := Rd.of_own howny
  have hrx6 := (hrx.below hb6).more hb6.size
  go_wp2
  go_ret3
  exact ⟨PX, cx, PY, cy, rfl, hrx6, hry, hb15.trans (hb6.mono hb15.size)⟩
end Go.Proofs.YtffcfnnbdmihaaaDoor
