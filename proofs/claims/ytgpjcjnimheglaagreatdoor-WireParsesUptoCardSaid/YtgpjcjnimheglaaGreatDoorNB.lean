/-
  WALKS of package wire's reader: fail, skip, is, need, word.
-/
import Derived.Test.YtgpjcjnimheglaaGreatDoorNA
import Derived.Test.YtgpjcjnimheglaaGreatDoorLG
import Derived.Test.YtgpjcjnimheglaaGreatDoorLF
import Derived.Deep.LoopGhost
namespace Go.Proofs.YtgpjcjnimheglaaGreatDoor
open Go.RowKit

/-- what is wrong, as a reading ends in it -/
def faultV (p e : Nat) : Value := .iface 133 (.agg #[.int .i64 p, .int .i64 e])
def faultC (p e : Nat) : List PanicEntry := [{ v := faultV p e, recovered := false }]
/-- the reader's cells -/
def rdrC (s : Bs) (i : Nat) : Array Value := #[.string ⟨s.toArray⟩, .int .i64 i]
def RdrAt (w : World) (g : Nat) (s : Bs) (i : Nat) : Prop := Blk w g 137 (rdrC s i)
/-- behind a step of the reader: all but it is as it was -/
structure AftR (g : Nat) (w w' : World) : Prop where
  bel : Below g w w'
  oth : Oth1 g w w'
section
variable {w w1 w' : World} {g : Nat} {s : Bs} {i k : Nat}
theorem RdrAt.lt (h : RdrAt w g s i) : g < w.heap.size := Blk.lt h
theorem RdrAt.c0 (h : RdrAt w g s i) : w.cell? ⟨g, 0, none⟩ = some (.string ⟨s.toArray⟩) := by have := Blk.cell h 0; simpa [rdrC] using this
theorem RdrAt.c1 (h : RdrAt w g s i) : w.cell? ⟨g, 1, none⟩ = some (.int .i64 i) := by have := Blk.cell h 1; simpa [rdrC] using this
theorem RdrAt.f1 (h : RdrAt w g s i) : w.frozen? ⟨g, 1, none⟩ = false := Blk.frozen h 1
theorem RdrAt.drewN (h : RdrAt w g s i) (n : Nat) : RdrAt (w.drewN n) g s i := h
theorem RdrAt.drew (h : RdrAt w g s i) : RdrAt w.drew g s i := h
theorem RdrAt.below (h : RdrAt w g s i) (hb : Below w.heap.size w w') : RdrAt w' g s i := Blk.below h hb h.lt
theorem RdrAt.move (h : RdrAt w g s i) (k : Nat) : RdrAt (w.setCell ⟨g, 1, none⟩ (.int .i64 k)) g s k := by
  have := Blk.set_ h 1 (.int .i64 k)
  exact this
theorem AftR.refl (g : Nat) (w : World) : AftR g w w := ⟨Below.refl _ _, Oth1.refl _ _⟩
theorem AftR.trans (h : AftR g w w1) (h' : AftR g w1 w') : AftR g w w' := ⟨h.bel.trans h'.bel, h.oth.trans h'.oth h.bel.size⟩
theorem AftR.drewN (h : AftR g w w1) (n : Nat) : AftR g w (w1.drewN n) := ⟨below_drewN h.bel n, h.oth⟩
theorem AftR.drew (h : AftR g w w1) : AftR g w w1.drew := ⟨h.bel.drew, h.oth⟩
theorem AftR.of_below (hb : Below w.heap.size w w') (hg : g ≤ w.heap.size) : AftR g w w' := ⟨hb.mono hg, Oth1.below hb⟩
theorem AftR.below (h : AftR g w w1) (hb : Below w1.heap.size w1 w') (hg : g ≤ w.heap.size) : AftR g w w' := h.trans (AftR.of_below hb (by have := h.bel.size; omega))
theorem AftR.set (h : AftR g w w1) (j : Nat) (u : Value) : AftR g w (w1.setCell ⟨g, j, none⟩ u) := ⟨h.bel.setCell (p := ⟨g, j, none⟩) (Nat.le_refl _) u, h.oth.trans (Oth1.set w1 j u) h.bel.size⟩
/-- a value stored into a cell of its own -/
theorem AftR.json (w : World) (b : Nat) (k n : Int) (t : ByteArray) (u v : Value) (hg : g < b) (hb : w1.heap.size ≤ b) : AftR g w1 w → AftR g w1 (((((w.setCell ⟨b, 0, none⟩ (.int .i64 k)).setCell ⟨b, 1, none⟩ (.int .i64 n)).setCell ⟨b, 2, none⟩ (.string t)).setCell ⟨b, 3, none⟩ u).setCell ⟨b, 4, none⟩ v) := fun h =>
  have h1 : ∀ (w : World) (j : Nat) (u : Value), AftR g w1 w → AftR g w1 (w.setCell ⟨b, j, none⟩ u) := fun w j u h =>
    ⟨h.bel.setCell (p := ⟨b, j, none⟩) (Nat.le_of_lt hg) u, fun k hk hn => (Below.heap_setCell w ⟨b, j, none⟩ u k (by simp; omega)).trans (h.oth k hk hn)⟩
  h1 _ 4 v (h1 _ 3 u (h1 _ 2 _ (h1 _ 1 _ (h1 _ 0 _ h))))
end

theorem fail_walk (p e : Nat) (w : World) : Calls Tryz.prog 58 #[.int .i64 p, .int .i64 e] w fun en w' => en = .panicked (faultC p e) ∧ w' = w := by
  go_enter Tryz.func58, Tryz.ntmps58
  go_wp2_with fail
  exact ⟨rfl, rfl, rfl⟩

/-- how a reading ends -/
def RsP {α : Type} (g : Nat) (s : Bs) (w : World) (val : α → Value) (r : Jp.Rs α) (e : Ending) (w' : World) : Prop :=
  AftR g w w' ∧ match r with
    | .ok a k => e = .returned (val a) ∧ RdrAt w' g s k
    | .bad p er => e = .panicked (faultC p er)
theorem RsP.ok {α : Type} {g : Nat} {s : Bs} {w w' : World} {val : α → Value} {r : Jp.Rs α} {a : α} {k : Nat} (h : r = .ok a k) (ha : AftR g w w') (hr : RdrAt w' g s k) : RsP g s w val r (.returned (val a)) w' := by
  subst h; exact ⟨ha, rfl, hr⟩
theorem RsP.bad {α : Type} {g : Nat} {s : Bs} {w w' : World} {val : α → Value} {r : Jp.Rs α} {p er : Nat} (h : r = .bad p er) (ha : AftR g w w') : RsP g s w val r (.panicked (faultC p er)) w' := by
  subst h; exact ⟨ha, rfl⟩
theorem RsP.is_ok {α : Type} {g : Nat} {s : Bs} {w w' : World} {val : α → Value} {a : α} {k : Nat} {e : Ending} (h : RsP g s w val (.ok a k) e w') : AftR g w w' ∧ e = .returned (val a) ∧ RdrAt w' g s k := h
theorem RsP.is_bad {α : Type} {g : Nat} {s : Bs} {w w' : World} {val : α → Value} {p er : Nat} {e : Ending} (h : RsP g s w val (.bad p er) e w') : AftR g w w' ∧ e = .panicked (faultC p er) := h

namespace Jp
theorem ix_blank (b : UInt8) : (decide (0 ≤ Lib.indexByte [32, 9, 13, 10] b)) = blankB b := by
  have h : ∀ i : Fin 256, (decide (0 ≤ Lib.indexByte [32, 9, 13, 10] (UInt8.ofNat i.val))) = blankB (UInt8.ofNat i.val) := by decide +kernel
  have := h ⟨b.toNat, b.toNat_lt⟩
  simpa using this
end Jp
theorem u8_of (b : UInt8) : ((b.toNat : Int).toNat.toUInt8) = b := by
  show (b.toNat).toUInt8 = b
  exact UInt8.toNat_inj.1 (by simp [Nat.toUInt8])

set_option maxHeartbeats 1000000 in
set_option maxRecDepth 100000 in
theorem jskip_walk (g : Nat) (s : Bs) (i : Nat) (w : World) (h : RdrAt w g s i) (hi : i ≤ s.length) (hl : s.length ≤ 16777216) :
    Calls Tryz.prog 57 #[.pointer (some ⟨g, 0, none⟩)] w fun e w' => e = .returned (.tuple #[]) ∧ RdrAt w' g s (Jp.skipP s i) ∧ AftR g w w' := by
  go_enter Tryz.func57, Tryz.ntmps57
  go_wp2_with fail
  go_loopg [] (s.length - i) (fun q wr => ∃ k, s.length - k ≤ q ∧ k ≤ s.length ∧ RdrAt wr g s k ∧ AftR g w wr ∧ Hid (Jp.skipP s i = Jp.skipP s k))
  case atStart => exact ⟨i, Nat.le_refl _, hi, h, AftR.refl _ _, rfl⟩
  case round =>
    clear h
    obtain ⟨k, hq, hk, h, ha, HS⟩ := hrel
    have c0 := h.c0
    have c1 := h.c1
    have f1 := h.f1
    have j1 : (0 : Int) ≤ (k : Int) := by omega
    by_cases hlt : k < s.length
    · have j2 : (k : Int) < (s.length : Int) := by omega
      have d1 : decide (k < s.length) = true := by simp [hlt]
      have hI : ∀ n, Calls Tryz.prog 93 #[.string ⟨#[32, 9, 13, 10]⟩, .int .u8 (((⟨s.toArray⟩ : ByteArray)[k]'(by rw [mk_size]; exact hlt)).toNat : Int)] (wr.drewN n) fun e w' => e = .returned (.int .i64 (Lib.indexByte [32, 9, 13, 10] s[k])) ∧ w' = wr.drewN n := fun n => by
        have h1 := Tryz.strings_IndexByte ⟨#[32, 9, 13, 10]⟩ (s[k].toNat : Int) (wr.drewN n)
        rw [u8_of] at h1
        exact h1
      have hix := Jp.ix_blank s[k]
      have Hgo : Hid (Jp.blankB s[k] = true → Jp.skipP s k = Jp.skipP s (k + 1)) := Jp.skip_go s k hlt
      have Hst : Hid (Jp.blankB s[k] = false → Jp.skipP s k = k) := Jp.skip_stop s k hlt
      generalize Jp.blankB s[k] = bl at *
      generalize Lib.indexByte [32, 9, 13, 10] s[k] = r at *
      cases bl with
      | true =>
        have HG := Lib.hid (Hgo.out rfl)
        have h2 := (h.drewN 0).move (k + 1)
        clear Hgo Hst
        go_wp2_with fail
        go_quiet ((go_at_call 93; exact Calls.quiet_of_same (hI _)))
        go_wp2_with fail
        go_roundg (s.length - (k + 1))
        case rel => exact ⟨k + 1, Nat.le_refl _, by omega, (h.drewN _).move (k + 1), (ha.drewN _).set 1 _, by show _ = _; rw [HS.out, HG.out]⟩
        case measure => omega
      | false =>
        have HG := Lib.hid (Hst.out rfl)
        clear Hgo Hst
        go_wp2_with fail
        go_quiet ((go_at_call 93; exact Calls.quiet_of_same (hI _)))
        go_wp2_with fail
        go_end0
        exact ⟨rfl, by rw [HS.out, HG.out]; exact h.drewN _, ha.drewN _⟩
    · obtain rfl : k = s.length := by omega
      have HG := Lib.hid (Jp.skip_end s s.length (Nat.le_refl _))
      go_wp2_with fail
      go_quiet (fail)
      go_wp2_with fail
      go_end0
      exact ⟨rfl, by rw [HS.out, HG.out]; exact h.drewN _, ha.drewN _⟩

set_option maxHeartbeats 1000000 in
set_option maxRecDepth 100000 in
theorem jis_walk (g : Nat) (s : Bs) (i : Nat) (c : UInt8) (w : World) (h : RdrAt w g s i) (hi : i ≤ s.length) (_hl : s.length ≤ 16777216) :
    Calls Tryz.prog 124 #[.pointer (some ⟨g, 0, none⟩), .int .u8 c.toNat] w fun e w' => e = .returned (.bool (decide (s[i]? = some c))) ∧ ∃ n, w' = w.drewN n := by
  have c0 := h.c0
  have c1 := h.c1
  have j1 : (0 : Int) ≤ (i : Int) := by omega
  by_cases hlt : i < s.length
  · have j2 : (i : Int) < (s.length : Int) := by omega
    have d1 : decide (i < s.length) = true := by simp [hlt]
    have hb := bk_eq s i hlt c
    rw [List.getElem?_eq_getElem hlt]
    simp only [Option.some.injEq]
    generalize decide (s[i] = c) = bb at *
    go_enter Tryz.func124, Tryz.ntmps124
    go_wp2_with fail
    go_quiet (fail)
    go_wp2_with fail
    go_ret
    exact ⟨rfl, _, rfl⟩
  · obtain rfl : i = s.length := by omega
    rw [List.getElem?_eq_none (Nat.le_refl _)]
    go_enter Tryz.func124, Tryz.ntmps124
    go_wp2_with fail
    go_quiet (fail)
    go_wp2_with fail
    go_ret
    exact ⟨by simp, _, rfl⟩

set_option maxHeartbeats 1000000 in
set_option maxRecDepth 100000 in
theorem jneed_walk (g : Nat) (s : Bs) (i : Nat) (c : UInt8) (w : World) (h : RdrAt w g s i) (hi : i ≤ s.length) (hl : s.length ≤ 16777216) :
    Calls Tryz.prog 90 #[.pointer (some ⟨g, 0, none⟩), .int .u8 c.toNat] w (RsP g s w (fun _ => .tuple #[]) (Jp.needP s c i)) := by
  have hsk := jskip_walk g s i w h hi hl
  have hle := Jp.skip_le s i hi
  generalize hR : Jp.needP s c i = R
  have hR2 : (if s[Jp.skipP s i]? = some c then (Jp.Rs.ok () (Jp.skipP s i + 1)) else .bad (Jp.skipP s i) 3) = R := hR
  clear hR
  generalize Jp.skipP s i = q at *
  by_cases hc : s[q]? = some c
  · rw [if_pos hc] at hR2
    have HR := Lib.hid hR2.symm
    clear hR2
    go_enter Tryz.func90, Tryz.ntmps90
    go_wp2_with fail
    refine hsk.mono ?_
    rintro e w1 ⟨rfl, h1, ha1⟩
    have his := jis_walk g s q c w1 h1 hle hl
    rw [decide_eq_true hc] at his
    have c1 := h1.c1
    have f1 := h1.f1
    go_wp2_with fail
    refine his.mono ?_
    rintro e w2 ⟨rfl, n, rfl⟩
    clear hc his hsk
    go_wp2_with fail
    go_end0
    exact RsP.ok (val := fun _ => Value.tuple #[]) HR.out ((ha1.drewN _).set 1 _) ((h1.drewN _).move (q + 1))
  · rw [if_neg hc] at hR2
    have HR := Lib.hid hR2.symm
    clear hR2
    go_enter Tryz.func90, Tryz.ntmps90
    go_wp2_with fail
    refine hsk.mono ?_
    rintro e w1 ⟨rfl, h1, ha1⟩
    have his := jis_walk g s q c w1 h1 hle hl
    rw [decide_eq_false hc] at his
    have c1 := h1.c1
    go_wp2_with fail
    refine his.mono ?_
    rintro e w2 ⟨rfl, n, rfl⟩
    clear hc his hsk
    go_wp2_with fail
    refine (fail_walk q 3 _).mono ?_
    rintro e w3 ⟨rfl, rfl⟩
    go_wp2_with fail
    exact ⟨rfl, RsP.bad HR.out (ha1.drewN _)⟩
end Go.Proofs.YtgpjcjnimheglaaGreatDoor
