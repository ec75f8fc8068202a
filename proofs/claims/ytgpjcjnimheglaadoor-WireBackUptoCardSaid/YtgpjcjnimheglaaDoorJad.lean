/-
  JOINED of the texts WF NB Builder BB NH LR LE
-/
import Derived.Test.YtgpjcjnimheglaaDoorJac
import Derived.Test.YtgpjcjnimheglaaDoorShelfW
import Derived.Shelf.Strings.SlTrimAscii
import Derived.Lib.LaidTab
import Derived.Deep.AppendLies
import Derived.Deep.RegionHeld3
import Derived.Deep.DeepCutAuto
import Derived.Lib.IndexMore
import Derived.Lib.Strings
import Derived.Test.YtgpjcjnimheglaaDoorRows
import Derived.WalkKit
import Derived.WalkSpells
import Derived.WalkLawsBesides
import Derived.Below
import Derived.Laws.OwnMore
import Derived.Deep.Draws
import Derived.Lib.Hide
import Derived.Deep.QuietTactic
import Derived.BigQuiet
import Derived.IntWalk
import Derived.Lib.AtoiAll
import Derived.Lib.IndexLaws
import Derived.Lib.SlTrimSet
import Derived.Lib.ItoaNum
import Derived.Lib.Atoi
import Derived.Test.YtgpjcjnimheglaaDoorJab
import Derived.Deep.LoopGhost
import Derived.Lib.RuneBytes
import Derived.Lib.ConvBytes
import Derived.Laws.Strings3
import Derived.Laws.Closers25
import Derived.Laws.Closers25b
import Derived.BigCall
import Derived.BigGuard
import Derived.Test.YtgpjcjnimheglaaDoorShelfX
import Derived.Shelf.Spec.BytesIndexFunc
import Derived.Test.YtgpjcjnimheglaaDoorShelf
import Derived.Shelf.Strings.Builder1
import Derived.StillTailTactics
import Derived.Deep.CutBlock
import Derived.Test.YtgpjcjnimheglaaDoorJaa
/-
  THE WALKS of wire.Frame, of the law's own cut, and of the reader's line.
-/
namespace Go.Proofs.YtgpjcjnimheglaaDoor
open Go.RowKit
open Go.Lib (itoa decDigits_length)

/-- internal/bytealg.MaxLen holds some number -/
def MaxL (w : World) (m : Int) : Prop := w.cell? ⟨0, 0, none⟩ = some (.int .i64 m)
theorem MaxL.lt {w : World} {m : Int} (h : MaxL w m) : 0 < w.heap.size := World.block_lt_of_cell? w ⟨0, 0, none⟩ h
theorem MaxL.below {w w' : World} {B : Nat} {m : Int} (h : MaxL w m) (hb : Below B w w') (hB : 0 < B) : MaxL w' m := (hb.cell (p := ⟨0, 0, none⟩) hB).trans h
/-- the table of powers of ten -/
def Tab10 (w : World) : Prop := Lib.TabIs Tryd.prog w "internal/strconv.uint64pow10" .u64 Lib.pow10Tab
theorem g10 : Tryd.prog.globalNamed "internal/strconv.uint64pow10" = some 1 := by kernel_rfl
theorem Tab10.below {w w' : World} {B : Nat} (h : Tab10 w) (hb : Below B w w') (hB : 1 < B) : Tab10 w' := by
  unfold Tab10 Lib.TabIs World.var? at h ⊢
  rw [g10] at h ⊢
  simp only [Option.bind_some] at h ⊢
  rw [hb.block _ hB]; exact h

theorem below_grow (w : World) (os : Array Obj) : Below w.heap.size w (Go.Sort.grow w os) := by
  refine ⟨rfl, rfl, rfl, by simp [Go.Sort.grow], fun k hk => ?_⟩
  simp [Go.Sort.grow, Array.getElem?_append, hk]

theorem itoa_len (b : Bs) (h : b.length ≤ 1048576) : (itoa b.length).length ≤ 9 := by
  rw [Wire.itoa_nat, decDigits_length]
  exact Wire.nDigits_le 9 _ (by omega) (by omega)
def intV (l : List Int) : List Value := l.map fun n => .int .i64 n
theorem Rd.intv {w : World} {B : Nat} {A : Option Addr} {l : List Int} {k : Nat} (h : Rd w B 1 A l.length (intV l)) (hk : k < l.length) :
    ∃ b o, A = some ⟨b, o, none⟩ ∧ b < B ∧ w.cell? ⟨b, o + k, none⟩ = some (.int .i64 l[k]) := by
  obtain ⟨b, o, e, hb, hc⟩ := h.2 (by omega)
  exact ⟨b, o, e, hb, hc k _ (by simp [intV, List.getElem?_eq_getElem hk])⟩
theorem txtV_snoc (l : List Bs) (x : Bs) : txtV (l ++ [x]) = txtV l ++ [strV x] := by simp [txtV]
theorem cuts_len (s : Bs) : ∀ (cs : List Int) (last : Nat), (Wire.cutsM s last cs).length ≤ cs.length + 1
  | [], _ => by simp [Wire.cutsM]
  | c :: cs, last => by
    unfold Wire.cutsM
    split
    · have := cuts_len s cs c.toNat; simp; omega
    · have := cuts_len s cs last; simp; omega

end Go.Proofs.YtgpjcjnimheglaaDoor
/-
  WALKS of package wire's reader: fail, skip, is, need, word.
-/
namespace Go.Proofs.YtgpjcjnimheglaaDoor
open Go.RowKit

/-- what is wrong, as a reading ends in it -/
def faultV (p e : Nat) : Value := .iface 42 (.agg #[.int .i64 p, .int .i64 e])
def faultC (p e : Nat) : List PanicEntry := [{ v := faultV p e, recovered := false }]
/-- the reader's cells -/
def rdrC (s : Bs) (i : Nat) : Array Value := #[.string ⟨s.toArray⟩, .int .i64 i]
def RdrAt (w : World) (g : Nat) (s : Bs) (i : Nat) : Prop := Blk w g 46 (rdrC s i)
/-- behind a step of the reader: all but it is as it was -/
structure AftR (g : Nat) (w w' : World) : Prop where
  bel : Below g w w'
  oth : Oth1 g w w'
section
variable {w w1 w' : World} {g : Nat} {s : Bs} {i k : Nat}
theorem RdrAt.lt (h : RdrAt w g s i) : g < w.heap.size := Blk.lt h
theorem RdrAt.c0 (h : RdrAt w g s i) : w.cell? ⟨g, 0, none⟩ = some (.string ⟨s.toArray⟩) := by have := Blk.cell h 0; simpa [rdrC] using this
theorem RdrAt.c1 (h : RdrAt w g s i) : w.cell? ⟨g, 1, none⟩ = some (.int .i64 i) := by have := Blk.cell h 1; simpa [rdrC] using this
theorem RdrAt.f1 (h : RdrAt w g s i) : w.frozen? ⟨g, 1, none⟩ = false := Blk.frozen h 1
theorem RdrAt.drewN (h : RdrAt w g s i) (n : Nat) : RdrAt (w.drewN n) g s i := h
theorem RdrAt.drew (h : RdrAt w g s i) : RdrAt w.drew g s i := h
theorem RdrAt.below (h : RdrAt w g s i) (hb : Below w.heap.size w w') : RdrAt w' g s i := Blk.below h hb h.lt
theorem RdrAt.move (h : RdrAt w g s i) (k : Nat) : RdrAt (w.setCell ⟨g, 1, none⟩ (.int .i64 k)) g s k := by
  have := Blk.set_ h 1 (.int .i64 k)
  exact this
theorem AftR.refl (g : Nat) (w : World) : AftR g w w := ⟨Below.refl _ _, Oth1.refl _ _⟩
theorem AftR.trans (h : AftR g w w1) (h' : AftR g w1 w') : AftR g w w' := ⟨h.bel.trans h'.bel, h.oth.trans h'.oth h.bel.size⟩
theorem AftR.drewN (h : AftR g w w1) (n : Nat) : AftR g w (w1.drewN n) := ⟨below_drewN h.bel n, h.oth⟩
theorem AftR.drew (h : AftR g w w1) : AftR g w w1.drew := ⟨h.bel.drew, h.oth⟩
theorem AftR.of_below (hb : Below w.heap.size w w') (hg : g ≤ w.heap.size) : AftR g w w' := ⟨hb.mono hg, Oth1.below hb⟩
theorem AftR.below (h : AftR g w w1) (hb : Below w1.heap.size w1 w') (hg : g ≤ w.heap.size) : AftR g w w' := h.trans (AftR.of_below hb (by have := h.bel.size; omega))
theorem AftR.set (h : AftR g w w1) (j : Nat) (u : Value) : AftR g w (w1.setCell ⟨g, j, none⟩ u) := ⟨h.bel.setCell (p := ⟨g, j, none⟩) (Nat.le_refl _) u, h.oth.trans (Oth1.set w1 j u) h.bel.size⟩
/-- a value stored into a cell of its own -/
theorem AftR.json (w : World) (b : Nat) (k n : Int) (t : ByteArray) (u v : Value) (hg : g < b) (hb : w1.heap.size ≤ b) : AftR g w1 w → AftR g w1 (((((w.setCell ⟨b, 0, none⟩ (.int .i64 k)).setCell ⟨b, 1, none⟩ (.int .i64 n)).setCell ⟨b, 2, none⟩ (.string t)).setCell ⟨b, 3, none⟩ u).setCell ⟨b, 4, none⟩ v) := fun h =>
  have h1 : ∀ (w : World) (j : Nat) (u : Value), AftR g w1 w → AftR g w1 (w.setCell ⟨b, j, none⟩ u) := fun w j u h =>
    ⟨h.bel.setCell (p := ⟨b, j, none⟩) (Nat.le_of_lt hg) u, fun k hk hn => (Below.heap_setCell w ⟨b, j, none⟩ u k (by simp; omega)).trans (h.oth k hk hn)⟩
  h1 _ 4 v (h1 _ 3 u (h1 _ 2 _ (h1 _ 1 _ (h1 _ 0 _ h))))
end

theorem fail_walk (p e : Nat) (w : World) : Calls Tryd.prog 12 #[.int .i64 p, .int .i64 e] w fun en w' => en = .panicked (faultC p e) ∧ w' = w := by
  go_enter Tryd.func12, Tryd.ntmps12
  go_wp2_with fail
  exact ⟨rfl, rfl, rfl⟩

/-- how a reading ends -/
def RsP {α : Type} (g : Nat) (s : Bs) (w : World) (val : α → Value) (r : Jp.Rs α) (e : Ending) (w' : World) : Prop :=
  AftR g w w' ∧ match r with
    | .ok a k => e = .returned (val a) ∧ RdrAt w' g s k
    | .bad p er => e = .panicked (faultC p er)
theorem RsP.ok {α : Type} {g : Nat} {s : Bs} {w w' : World} {val : α → Value} {r : Jp.Rs α} {a : α} {k : Nat} (h : r = .ok a k) (ha : AftR g w w') (hr : RdrAt w' g s k) : RsP g s w val r (.returned (val a)) w' := by
  subst h; exact ⟨ha, rfl, hr⟩
theorem RsP.bad {α : Type} {g : Nat} {s : Bs} {w w' : World} {val : α → Value} {r : Jp.Rs α} {p er : Nat} (h : r = .bad p er) (ha : AftR g w w') : RsP g s w val r (.panicked (faultC p er)) w' := by
  subst h; exact ⟨ha, rfl⟩
theorem RsP.is_ok {α : Type} {g : Nat} {s : Bs} {w w' : World} {val : α → Value} {a : α} {k : Nat} {e : Ending} (h : RsP g s w val (.ok a k) e w') : AftR g w w' ∧ e = .returned (val a) ∧ RdrAt w' g s k := h
theorem RsP.is_bad {α : Type} {g : Nat} {s : Bs} {w w' : World} {val : α → Value} {p er : Nat} {e : Ending} (h : RsP g s w val (.bad p er) e w') : AftR g w w' ∧ e = .panicked (faultC p er) := h

namespace Jp
theorem ix_blank (b : UInt8) : (decide (0 ≤ Lib.indexByte [32, 9, 13, 10] b)) = blankB b := by
  have h : ∀ i : Fin 256, (decide (0 ≤ Lib.indexByte [32, 9, 13, 10] (UInt8.ofNat i.val))) = blankB (UInt8.ofNat i.val) := by decide +kernel
  have := h ⟨b.toNat, b.toNat_lt⟩
  simpa using this
end Jp
theorem u8_of (b : UInt8) : ((b.toNat : Int).toNat.toUInt8) = b := by
  show (b.toNat).toUInt8 = b
  exact UInt8.toNat_inj.1 (by simp [Nat.toUInt8])

set_option maxHeartbeats 1000000 in
set_option maxRecDepth 100000 in
theorem jskip_walk (g : Nat) (s : Bs) (i : Nat) (w : World) (h : RdrAt w g s i) (hi : i ≤ s.length) (hl : s.length ≤ 16777216) :
    Calls Tryd.prog 11 #[.pointer (some ⟨g, 0, none⟩)] w fun e w' => e = .returned (.tuple #[]) ∧ RdrAt w' g s (Jp.skipP s i) ∧ AftR g w w' := by
  go_enter Tryd.func11, Tryd.ntmps11
  go_wp2_with fail
  go_loopg [] (s.length - i) (fun q wr => ∃ k, s.length - k ≤ q ∧ k ≤ s.length ∧ RdrAt wr g s k ∧ AftR g w wr ∧ Hid (Jp.skipP s i = Jp.skipP s k))
  case atStart => exact ⟨i, Nat.le_refl _, hi, h, AftR.refl _ _, rfl⟩
  case round =>
    clear h
    obtain ⟨k, hq, hk, h, ha, HS⟩ := hrel
    have c0 := h.c0
    have c1 := h.c1
    have f1 := h.f1
    have j1 : (0 : Int) ≤ (k : Int) := by omega
    by_cases hlt : k < s.length
    · have j2 : (k : Int) < (s.length : Int) := by omega
      have d1 : decide (k < s.length) = true := by simp [hlt]
      have hI : ∀ n, Calls Tryd.prog 30 #[.string ⟨#[32, 9, 13, 10]⟩, .int .u8 (((⟨s.toArray⟩ : ByteArray)[k]'(by rw [mk_size]; exact hlt)).toNat : Int)] (wr.drewN n) fun e w' => e = .returned (.int .i64 (Lib.indexByte [32, 9, 13, 10] s[k])) ∧ w' = wr.drewN n := fun n => by
        have h1 := Tryd.strings_IndexByte ⟨#[32, 9, 13, 10]⟩ (s[k].toNat : Int) (wr.drewN n)
        rw [u8_of] at h1
        exact h1
      have hix := Jp.ix_blank s[k]
      have Hgo : Hid (Jp.blankB s[k] = true → Jp.skipP s k = Jp.skipP s (k + 1)) := Jp.skip_go s k hlt
      have Hst : Hid (Jp.blankB s[k] = false → Jp.skipP s k = k) := Jp.skip_stop s k hlt
      generalize Jp.blankB s[k] = bl at *
      generalize Lib.indexByte [32, 9, 13, 10] s[k] = r at *
      cases bl with
      | true =>
        have HG := Lib.hid (Hgo.out rfl)
        have h2 := (h.drewN 0).move (k + 1)
        clear Hgo Hst
        go_wp2_with fail
        go_quiet ((go_at_call 30; exact Calls.quiet_of_same (hI _)))
        go_wp2_with fail
        go_roundg (s.length - (k + 1))
        case rel => exact ⟨k + 1, Nat.le_refl _, by omega, (h.drewN _).move (k + 1), (ha.drewN _).set 1 _, by show _ = _; rw [HS.out, HG.out]⟩
        case measure => omega
      | false =>
        have HG := Lib.hid (Hst.out rfl)
        clear Hgo Hst
        go_wp2_with fail
        go_quiet ((go_at_call 30; exact Calls.quiet_of_same (hI _)))
        go_wp2_with fail
        go_end0
        exact ⟨rfl, by rw [HS.out, HG.out]; exact h.drewN _, ha.drewN _⟩
    · obtain rfl : k = s.length := by omega
      have HG := Lib.hid (Jp.skip_end s s.length (Nat.le_refl _))
      go_wp2_with fail
      go_quiet (fail)
      go_wp2_with fail
      go_end0
      exact ⟨rfl, by rw [HS.out, HG.out]; exact h.drewN _, ha.drewN _⟩

set_option maxHeartbeats 1000000 in
set_option maxRecDepth 100000 in
theorem jis_walk (g : Nat) (s : Bs) (i : Nat) (c : UInt8) (w : World) (h : RdrAt w g s i) (hi : i ≤ s.length) (_hl : s.length ≤ 16777216) :
    Calls Tryd.prog 38 #[.pointer (some ⟨g, 0, none⟩), .int .u8 c.toNat] w fun e w' => e = .returned (.bool (decide (s[i]? = some c))) ∧ ∃ n, w' = w.drewN n := by
  have c0 := h.c0
  have c1 := h.c1
  have j1 : (0 : Int) ≤ (i : Int) := by omega
  by_cases hlt : i < s.length
  · have j2 : (i : Int) < (s.length : Int) := by omega
    have d1 : decide (i < s.length) = true := by simp [hlt]
    have hb := bk_eq s i hlt c
    rw [List.getElem?_eq_getElem hlt]
    simp only [Option.some.injEq]
    generalize decide (s[i] = c) = bb at *
    go_enter Tryd.func38, Tryd.ntmps38
    go_wp2_with fail
    go_quiet (fail)
    go_wp2_with fail
    go_ret
    exact ⟨rfl, _, rfl⟩
  · obtain rfl : i = s.length := by omega
    rw [List.getElem?_eq_none (Nat.le_refl _)]
    go_enter Tryd.func38, Tryd.ntmps38
    go_wp2_with fail
    go_quiet (fail)
    go_wp2_with fail
    go_ret
    exact ⟨by simp, _, rfl⟩

set_option maxHeartbeats 1000000 in
set_option maxRecDepth 100000 in
theorem jneed_walk (g : Nat) (s : Bs) (i : Nat) (c : UInt8) (w : World) (h : RdrAt w g s i) (hi : i ≤ s.length) (hl : s.length ≤ 16777216) :
    Calls Tryd.prog 27 #[.pointer (some ⟨g, 0, none⟩), .int .u8 c.toNat] w (RsP g s w (fun _ => .tuple #[]) (Jp.needP s c i)) := by
  have hsk := jskip_walk g s i w h hi hl
  have hle := Jp.skip_le s i hi
  generalize hR : Jp.needP s c i = R
  have hR2 : (if s[Jp.skipP s i]? = some c then (Jp.Rs.ok () (Jp.skipP s i + 1)) else .bad (Jp.skipP s i) 3) = R := hR
  clear hR
  generalize Jp.skipP s i = q at *
  by_cases hc : s[q]? = some c
  · rw [if_pos hc] at hR2
    have HR := Lib.hid hR2.symm
    clear hR2
    go_enter Tryd.func27, Tryd.ntmps27
    go_wp2_with fail
    refine hsk.mono ?_
    rintro e w1 ⟨rfl, h1, ha1⟩
    have his := jis_walk g s q c w1 h1 hle hl
    rw [decide_eq_true hc] at his
    have c1 := h1.c1
    have f1 := h1.f1
    go_wp2_with fail
    refine his.mono ?_
    rintro e w2 ⟨rfl, n, rfl⟩
    clear hc his hsk
    go_wp2_with fail
    go_end0
    exact RsP.ok (val := fun _ => Value.tuple #[]) HR.out ((ha1.drewN _).set 1 _) ((h1.drewN _).move (q + 1))
  · rw [if_neg hc] at hR2
    have HR := Lib.hid hR2.symm
    clear hR2
    go_enter Tryd.func27, Tryd.ntmps27
    go_wp2_with fail
    refine hsk.mono ?_
    rintro e w1 ⟨rfl, h1, ha1⟩
    have his := jis_walk g s q c w1 h1 hle hl
    rw [decide_eq_false hc] at his
    have c1 := h1.c1
    go_wp2_with fail
    refine his.mono ?_
    rintro e w2 ⟨rfl, n, rfl⟩
    clear hc his hsk
    go_wp2_with fail
    refine (fail_walk q 3 _).mono ?_
    rintro e w3 ⟨rfl, rfl⟩
    go_wp2_with fail
    exact ⟨rfl, RsP.bad HR.out (ha1.drewN _)⟩
end Go.Proofs.YtgpjcjnimheglaaDoor
/-
  (*strings.Builder).WriteString over this translation: the bytes are appended (after the guide's shelf, whose own body differs by one refused line).
-/
namespace Go.Proofs.YtgpjcjnimheglaaDoor
open Go.RowKit

theorem bd_size : (Tryd.prog.info? 37).map (·.size) = some 2 := by kernel_rfl
theorem bd_lies : liesAt Tryd.prog Tryd.prog.depth 37 (2 / Tryd.prog.cellsOf 37) 0 37 1 = true := by kernel_rfl
theorem bd_byte : (Tryd.prog.info? 5).map (fun i => (i.zero, i.size, i.bytes)) = some (some (.int .u8 0), 1, 1) := by kernel_rfl

set_option maxRecDepth 100000 in
theorem copyCheck_used (b : Nat) (w : World) (h0 : w.cell? ⟨b, 0, none⟩ = some (.pointer (some ⟨b, 0, none⟩))) :
    Calls Tryd.prog 32 #[.pointer (some ⟨b, 0, none⟩)] w fun e w' => e = .returned (.tuple #[]) ∧ w' = w := by
  obtain ⟨j, hj, _⟩ := Option.map_eq_some_iff.1 bd_size
  go_enter Tryd.func32, Tryd.ntmps32
  go_wp2
  rw [Lib.run_neq_ptr_same w _ Tryd.underlying34 hj]
  go_wp2
  go_end0
  exact ⟨rfl, rfl⟩

set_option maxHeartbeats 1000000 in
set_option maxRecDepth 100000 in
theorem copyCheck_fresh (b : Nat) (w : World) (h0 : w.cell? ⟨b, 0, none⟩ = some (.pointer none)) (hsh : w.shape? b = some (37, 2)) (hfz : w.frozen? ⟨b, 0, none⟩ = false) :
    Calls Tryd.prog 32 #[.pointer (some ⟨b, 0, none⟩)] w fun e w' => e = .returned (.tuple #[]) ∧ w' = w.setCell ⟨b, 0, none⟩ (.pointer (some ⟨b, 0, none⟩)) := by
  obtain ⟨j, hj, hjs⟩ := Option.map_eq_some_iff.1 bd_size
  go_enter Tryd.func32, Tryd.ntmps32
  go_wp2
  rw [Lib.run_to_unsafe w ⟨b, 0, none⟩ Tryd.underlying34 Tryd.underlying72 hj (by rw [hjs]; decide) hsh (Nat.zero_lt_succ 1)]
  simp only [Result.andThen]
  rw [Oper.upon_value]
  go_wp2
  rw [run_callFunc_extern Tryd.func43 (by kernel_rfl) (by kernel_rfl) (by kernel_rfl) (e := Extern.AbiNoEscape.same) (by kernel_rfl)]
  rw [Lib.run_noEscape]
  simp only [Result.andThen]
  rw [Oper.upon_value]
  go_wp2
  rw [Lib.run_from_unsafe w ⟨b, 0, none⟩ Tryd.underlying72 Tryd.underlying34 hj hsh bd_lies]
  simp only [Result.andThen]
  rw [Oper.upon_value]
  go_wp2
  go_end0
  exact ⟨rfl, rfl⟩

theorem copyCheck_any (B b : Nat) (bs : List Value) (w : World) (h : Lib.IsBuilder 37 5 B b bs w) :
    Calls Tryd.prog 32 #[.pointer (some ⟨b, 0, none⟩)] w fun e w' => e = .returned (.tuple #[]) ∧ (Lib.BuilderAt 37 5 B b (.pointer (some ⟨b, 0, none⟩)) bs w' ∧ Below B w w' ∧ KeepX [37, 5] w w') := by
  rcases h with h | h
  · refine (copyCheck_fresh b w h.cell0 h.shape h.frozen0).mono ?_
    rintro e w' ⟨rfl, rfl⟩
    obtain ⟨_, v, hb, _⟩ := id h
    exact ⟨rfl, h.used _, (Below.refl B w).setCell (p := ⟨b, 0, none⟩) h.1 _, (KeepX.refl _ _).setCell (p := ⟨b, 0, none⟩) hb (by simp) _⟩
  · refine (copyCheck_used b w h.cell0).mono ?_
    rintro e w' ⟨rfl, rfl⟩
    exact ⟨rfl, h, Below.refl B _, KeepX.refl _ _⟩

set_option maxHeartbeats 2000000 in
set_option maxRecDepth 100000 in
theorem writeString_any (B b : Nat) (bs : List Value) (s : ByteArray) (w : World) (h : Lib.IsBuilder 37 5 B b bs w) (hlen : bs.length + s.size ≤ 140737488355328) (hBw : B ≤ w.heap.size) :
    Calls Tryd.prog 15 #[.pointer (some ⟨b, 0, none⟩), .string s] w fun e w' => e = .returned (.tuple #[.int .i64 s.size, .nilIface]) ∧ (Lib.BuilderAt 37 5 B b (.pointer (some ⟨b, 0, none⟩)) (bs ++ Lib.strCells s) w' ∧ Below B w w' ∧ KeepX [37, 5] w w') := by
  obtain ⟨i0, hi, hz0, hz1, hz2⟩ := info_parts bd_byte
  go_enter Tryd.func15, Tryd.ntmps15
  go_wp2_with (go_at_call 32; refine (copyCheck_any B b bs _ h).mono ?_)
  rintro e w1 ⟨rfl, h1, hb1, hk1⟩
  obtain ⟨hB, v, hbk, hown, hne⟩ := h1
  have c0 : w1.cell? ⟨b, 0, none⟩ = some (.pointer (some ⟨b, 0, none⟩)) := by rw [Lib.cell_of_heap hbk]; rfl
  have c1 : w1.cell? ⟨b, 1, none⟩ = some v := by rw [Lib.cell_of_heap hbk]; rfl
  go_wp2_with (at_builtin; refine Lib.wpList_append_own_string _ rfl _ _ 35 9 rfl B 5 i0 Tryd.underlying35 Tryd.underlying9 hi hz0 hz1 hz2 _ _ _ rfl hown s rfl ?c3 ?c4 ?c5 ?_)
  case c3 => unfold maxLen; omega
  case c4 => omega
  case c5 => have := hb1.size; omega
  intro v' w2 hown' hgrow _
  have hlt : b < w1.heap.size := by
    rcases Nat.lt_or_ge b w1.heap.size with h' | h'
    · exact h'
    · simp [Array.getElem?_eq_none h'] at hbk
  have hb2 : w2.heap[b]? = some (.cells #[.pointer (some ⟨b, 0, none⟩), v] 37 (0, 0)) := by
    rw [hgrow.block b hlt (fun e => hne e.symm)]
    exact hbk
  have d0 : w2.cell? ⟨b, 0, none⟩ = some (.pointer (some ⟨b, 0, none⟩)) := by rw [Lib.cell_of_heap hb2]; rfl
  have d1 : w2.cell? ⟨b, 1, none⟩ = some v := by rw [Lib.cell_of_heap hb2]; rfl
  have f1 : w2.frozen? ⟨b, 1, none⟩ = false := Lib.frozen_of_heap hb2 1
  obtain ⟨ao, n', cap, rfl⟩ : ∃ ao n' cap, v' = .slice ao n' cap := by
    rcases hown'.2 with ⟨hv, _⟩ | ⟨g, cap, cur, hv, _⟩
    · exact ⟨_, _, _, hv⟩
    · exact ⟨_, _, _, hv⟩
  go_wp2
  go_ret2
  refine ⟨rfl, ?_, ?_, ?_⟩
  · exact Lib.BuilderAt.put (T := 37) (e := 5) hB hb2 (bs' := bs ++ Lib.strCells s) (by simpa [Lib.strCells_length] using hown') (by decide)
  · exact (hb1.grown hgrow (by have := hb1.size; omega) (fun k hk => (hown.lt k hk).1)).setCell (p := ⟨b, 1, none⟩) hB _
  · refine (hk1.grown hgrow fun g hg => ?_).setCell (p := ⟨b, 1, none⟩) hb2 (by simp) _
    obtain ⟨cs, fr, hh⟩ := own_ty hown g hg
    exact ⟨cs, _, fr, hh, by simp⟩

theorem bd_alloc {B b : Nat} {bs : List Value} {w : World} (h : Lib.IsBuilder 37 5 B b bs w) (o : Obj) : Lib.IsBuilder 37 5 B b bs (w.alloc o) := by
  rcases h with h | h
  · obtain ⟨h1, v, h2, h3, h4⟩ := h
    exact .inl ⟨h1, v, (Below.heap_alloc w o b (lt_heap h2)).trans h2, h3.alloc _, h4⟩
  · obtain ⟨h1, v, h2, h3, h4⟩ := h
    exact .inr ⟨h1, v, (Below.heap_alloc w o b (lt_heap h2)).trans h2, h3.alloc _, h4⟩
end Go.Proofs.YtgpjcjnimheglaaDoor
/-
  strings.Builder, told in lists of bytes: WriteByte, WriteString, String.
-/
namespace Go.Proofs.YtgpjcjnimheglaaDoor
open Go.RowKit

/-- the builder at block b holds the bytes l -/
def IsB (B b : Nat) (l : Bs) (w : World) : Prop := Lib.IsBuilder 37 5 B b (Lib.byteCells l) w

set_option maxHeartbeats 2000000 in
set_option maxRecDepth 100000 in
theorem writeByte_any (B b : Nat) (bs : List Value) (c : Int) (w : World) (h : Lib.IsBuilder 37 5 B b bs w) (hlen : bs.length + 1 ≤ 140737488355328) (hBw : B ≤ w.heap.size) :
    Calls Tryd.prog 19 #[.pointer (some ⟨b, 0, none⟩), .int .u8 c] w fun e w' => e = .returned .nilIface ∧ (Lib.BuilderAt 37 5 B b (.pointer (some ⟨b, 0, none⟩)) (bs ++ [.int .u8 c]) w' ∧ Below B w w' ∧ KeepX [37, 5] w w') := by
  obtain ⟨i0, hi, hz0, hz1, hz2⟩ := info_parts bd_byte
  go_enter Tryd.func19, Tryd.ntmps19
  go_wp2_with (go_at_call 32; refine (copyCheck_any B b bs _ h).mono ?_)
  rintro e w1 ⟨rfl, h1, hb1, hk1⟩
  obtain ⟨hB, v, hbk, hown, hne⟩ := h1
  have c0 : w1.cell? ⟨b, 0, none⟩ = some (.pointer (some ⟨b, 0, none⟩)) := by rw [Lib.cell_of_heap hbk]; rfl
  have c1 : w1.cell? ⟨b, 1, none⟩ = some v := by rw [Lib.cell_of_heap hbk]; rfl
  go_wp2_with (at_builtin; refine wpList_append_own _ rfl _ _ 35 rfl B 5 i0 (.int .u8 0) 1 1 Tryd.underlying35 hi hz0 hz1 hz2 rfl (by decide) _ _ _ rfl (hown.alloc _) ⟨w1.heap.size, 0, none⟩ 1 1 [.int .u8 c] rfl rfl ?c1 ?c2 ?c3 ?c4 ?c5 ?_)
  case c1 =>
    intro j u hj
    match j, hj with
    | 0, hj => simp at hj; subst hj; simp [Addr.add]
  case c2 => intro u hu; simp at hu; subst hu; rfl
  case c3 => unfold maxLen; omega
  case c4 => omega
  case c5 => have := hb1.size; simp; omega
  intro v' w2 hown' hgrow _
  have hlt : b < w1.heap.size := by
    rcases Nat.lt_or_ge b w1.heap.size with h' | h'
    · exact h'
    · simp [Array.getElem?_eq_none h'] at hbk
  have hb2 : w2.heap[b]? = some (.cells #[.pointer (some ⟨b, 0, none⟩), v] 37 (0, 0)) := by
    rw [hgrow.block b (by simp; omega) (fun e => hne e.symm), Below.heap_alloc w1 _ b hlt]
    exact hbk
  have d0 : w2.cell? ⟨b, 0, none⟩ = some (.pointer (some ⟨b, 0, none⟩)) := by rw [Lib.cell_of_heap hb2]; rfl
  have d1 : w2.cell? ⟨b, 1, none⟩ = some v := by rw [Lib.cell_of_heap hb2]; rfl
  have f1 : w2.frozen? ⟨b, 1, none⟩ = false := Lib.frozen_of_heap hb2 1
  obtain ⟨g, cap, rfl⟩ : ∃ g cap, v' = .slice (some ⟨g, 0, none⟩) (bs.length + 1) cap := by
    rcases hown'.2 with ⟨_, h0⟩ | ⟨g, cap, cur, hv, _⟩
    · omega
    · exact ⟨g, cap, hv⟩
  go_wp2
  go_ret
  refine ⟨rfl, ?_, ?_, ?_⟩
  · exact Lib.BuilderAt.put (T := 37) (e := 5) hB hb2 (bs' := bs ++ [.int .u8 c]) (by simpa using hown') (by decide)
  · exact (((hb1.alloc (by have := hb1.size; omega) _).grown hgrow (by have := hb1.size; simp; omega) (fun k hk => (hown.lt k hk).1))).setCell (p := ⟨b, 1, none⟩) hB _
  · refine ((hk1.alloc _).grown hgrow fun g hg => ?_).setCell (p := ⟨b, 1, none⟩) hb2 (by simp) _
    obtain ⟨cs, fr, hh⟩ := own_ty hown g hg
    exact ⟨cs, _, fr, (Below.heap_alloc w1 _ g (lt_heap hh)).trans hh, by simp⟩

section
variable {B b : Nat} {l : Bs} {w : World}
theorem IsB.alloc (h : IsB B b l w) (o : Obj) : IsB B b l (w.alloc o) := bd_alloc h o
theorem IsB.drew (h : IsB B b l w) : IsB B b l w.drew := h
theorem IsB.drewN (h : IsB B b l w) (n : Nat) : IsB B b l (w.drewN n) := h
theorem IsB.lt (h : IsB B b l w) : b < w.heap.size := by
  rcases h with h | h <;> (obtain ⟨_, v, hb, _⟩ := h; exact lt_heap hb)
theorem IsB.keep (h : IsB B b l w) {w' : World} (hk : ∀ k, k < w.heap.size → B ≤ k → w'.heap[k]? = w.heap[k]?) : IsB B b l w' := by
  rcases h with h | h
  · obtain ⟨h1, v, hb, hown, hne⟩ := h
    exact .inl ⟨h1, v, (hk b (lt_heap hb) h1).trans hb, own_of_block hown fun k hv => hk k (hown.lt k hv).2 (hown.lt k hv).1, hne⟩
  · obtain ⟨h1, v, hb, hown, hne⟩ := h
    exact .inr ⟨h1, v, (hk b (lt_heap hb) h1).trans hb, own_of_block hown fun k hv => hk k (hown.lt k hv).2 (hown.lt k hv).1, hne⟩
theorem IsB.below' (h : IsB B b l w) {w' : World} (hb : Below w.heap.size w w') : IsB B b l w' := h.keep fun k hk _ => hb.block k hk
theorem IsB.fresh (w : World) : IsB w.heap.size w.heap.size [] (w.alloc (.cells #[.pointer none, .slice none 0 0] 37)) := Lib.fresh_isBuilder _ _ _
theorem writeByte_walk (h : IsB B b l w) (c : UInt8) (hlen : l.length + 1 ≤ 140737488355328) (hBw : B ≤ w.heap.size) :
    Calls Tryd.prog 19 #[.pointer (some ⟨b, 0, none⟩), .int .u8 c.toNat] w fun e w' => e = .returned .nilIface ∧ IsB B b (l ++ [c]) w' ∧ Below B w w' ∧ KeepX [37, 5] w w' :=
  (writeByte_any B b _ c.toNat w h (by rw [Lib.byteCells_length]; omega) hBw).mono fun e w' ⟨h1, h2, h3, h4⟩ => ⟨h1, .inr (by rw [Lib.byteCells_append]; exact h2), h3, h4⟩
theorem writeStr_walk (h : IsB B b l w) (x : Bs) (hlen : l.length + x.length ≤ 140737488355328) (hBw : B ≤ w.heap.size) :
    Calls Tryd.prog 15 #[.pointer (some ⟨b, 0, none⟩), .string ⟨x.toArray⟩] w fun e w' => e = .returned (.tuple #[.int .i64 x.length, .nilIface]) ∧ IsB B b (l ++ x) w' ∧ Below B w w' ∧ KeepX [37, 5] w w' :=
  (writeString_any B b _ ⟨x.toArray⟩ w h (by rw [Lib.byteCells_length, mk_size]; omega) hBw).mono fun e w' ⟨h1, h2, h3, h4⟩ => ⟨by rw [h1, mk_size], .inr (by rw [Lib.byteCells_append]; exact h2), h3, h4⟩
theorem bString_walk (h : IsB B b l w) (hBw : B ≤ w.heap.size) :
    Calls Tryd.prog 8 #[.pointer (some ⟨b, 0, none⟩)] w fun e w' => e = .returned (.string ⟨l.toArray⟩) ∧ Below B w w' := Tryd.Builder_String_any B b l w h hBw
end
end Go.Proofs.YtgpjcjnimheglaaDoor
/-
  VALUES OF MESSAGES IN MEMORY, as a reading makes them: their rows keep to some blocks.
-/
namespace Go.Proofs.YtgpjcjnimheglaaDoor
open Go.RowKit

/-- a slice that is only read, in one of the blocks F -/
def RdF (w : World) (F : Nat → Prop) (size : Nat) (A : Option Addr) (n : Nat) (xs : List Value) : Prop :=
  xs.length = n * size ∧ (0 < n → ∃ b o, A = some ⟨b, o, none⟩ ∧ F b ∧ b < w.heap.size ∧ ∀ j u, xs[j]? = some u → w.cell? ⟨b, o + j, none⟩ = some u)
/-- all of the blocks F are as they were -/
def KeepF (F : Nat → Prop) (w w' : World) : Prop := w.heap.size ≤ w'.heap.size ∧ ∀ b, F b → b < w.heap.size → w'.heap[b]? = w.heap[b]?
section
variable {w w' w1 : World} {F F' : Nat → Prop}
theorem KeepF.refl (F : Nat → Prop) (w : World) : KeepF F w w := ⟨Nat.le_refl _, fun _ _ _ => rfl⟩
theorem KeepF.trans (h : KeepF F w w1) (h' : KeepF F w1 w') : KeepF F w w' :=
  ⟨Nat.le_trans h.1 h'.1, fun b hb hl => (h'.2 b hb (by have := h.1; omega)).trans (h.2 b hb hl)⟩
theorem KeepF.below (hb : Below w.heap.size w w') : KeepF F w w' := ⟨hb.size, fun b _ hl => hb.block b hl⟩
theorem KeepF.cell (h : KeepF F w w') {b o : Nat} (hF : F b) (hl : b < w.heap.size) : w'.cell? ⟨b, o, none⟩ = w.cell? ⟨b, o, none⟩ := World.cell?_of_block (a := ⟨b, o, none⟩) (h.2 b hF hl)
theorem RdF.keep {size n : Nat} {A : Option Addr} {xs : List Value} (h : RdF w F size A n xs) (hk : KeepF F w w') (hF : ∀ b, F b → b < w.heap.size → F' b) : RdF w' F' size A n xs :=
  ⟨h.1, fun hn => by
    obtain ⟨b, o, e, hb, hl, hc⟩ := h.2 hn
    exact ⟨b, o, e, hF b hb hl, by have := hk.1; omega, fun j u hu => (hk.cell hb hl).trans (hc j u hu)⟩⟩
theorem RdF.rd {size n : Nat} {A : Option Addr} {xs : List Value} (h : RdF w F size A n xs) : Rd w w.heap.size size A n xs :=
  ⟨h.1, fun hn => by
    obtain ⟨b, o, e, hb, hl, hc⟩ := h.2 hn
    exact ⟨b, o, e, hl, hc⟩⟩
end

/-- the five cells of a value -/
def jcells (j : JT) (Ak : Option Addr) (ck : Nat) (Ad : Option Addr) (cd : Nat) : List Value := [.int .i64 j.kind, .int .i64 j.num, strV j.text, .slice Ak j.keys.length ck, .slice Ad j.kids.length cd]
/-- numbers that fit -/
def JFit (j : JT) : Prop := (-9223372036854775808 ≤ j.num ∧ j.num ≤ 9223372036854775807) ∧ (-9223372036854775808 ≤ j.kind ∧ j.kind ≤ 9223372036854775807)
/-- a row of values, so deep, in the blocks F -/
def JsF (w : World) (F : Nat → Prop) : Nat → List JT → Option Addr → Prop
  | 0, l, _ => l = []
  | d + 1, l, A => 0 < l.length → ∃ b o, A = some ⟨b, o, none⟩ ∧ F b ∧ b < w.heap.size ∧ ∀ k (h : k < l.length), ∃ Ak ck Ad cd,
      (∀ j u, (jcells l[k] Ak ck Ad cd)[j]? = some u → w.cell? ⟨b, o + (k * 5 + j), none⟩ = some u) ∧
      RdF w F 1 Ak l[k].keys.length (txtV l[k].keys) ∧ l[k].keys.length ≤ ck ∧ JsF w F d l[k].kids Ad ∧ JFit l[k]
/-- a value's rows -/
def JInF (w : World) (F : Nat → Prop) (d : Nat) (j : JT) (Ak : Option Addr) (ck : Nat) (Ad : Option Addr) : Prop :=
  RdF w F 1 Ak j.keys.length (txtV j.keys) ∧ j.keys.length ≤ ck ∧ JsF w F d j.kids Ad ∧ JFit j
theorem JsF.keep {w w' : World} {F F' : Nat → Prop} : ∀ {d : Nat} {l : List JT} {A : Option Addr}, JsF w F d l A → KeepF F w w' → (∀ b, F b → b < w.heap.size → F' b) → JsF w' F' d l A
  | 0, _, _, h, _, _ => h
  | d + 1, l, A, h, hk, hF => fun hn => by
    obtain ⟨b, o, e, hb, hl, hh⟩ := h hn
    refine ⟨b, o, e, hF b hb hl, by have := hk.1; omega, fun k hkl => ?_⟩
    obtain ⟨Ak, ck, Ad, cd, hc, hr, hle, hj, hf⟩ := hh k hkl
    exact ⟨Ak, ck, Ad, cd, fun j u hu => (hk.cell hb hl).trans (hc j u hu), hr.keep hk hF, hle, JsF.keep hj hk hF, hf⟩
theorem JInF.keep {w w' : World} {F F' : Nat → Prop} {d : Nat} {j : JT} {Ak Ad : Option Addr} {ck : Nat} (h : JInF w F d j Ak ck Ad) (hk : KeepF F w w') (hF : ∀ b, F b → b < w.heap.size → F' b) : JInF w' F' d j Ak ck Ad :=
  ⟨h.1.keep hk hF, h.2.1, h.2.2.1.keep hk hF, h.2.2.2⟩
theorem JsF.succ {w : World} {F : Nat → Prop} : ∀ {d : Nat} {l : List JT} {A : Option Addr}, JsF w F d l A → JsF w F (d + 1) l A
  | 0, l, A, h => fun hn => by
    have h : l = [] := h
    subst h
    exact absurd hn (by simp)
  | d + 1, l, A, h => fun hn => by
    obtain ⟨b, o, e, hb, hl, hh⟩ := h hn
    refine ⟨b, o, e, hb, hl, fun k hkl => ?_⟩
    obtain ⟨Ak, ck, Ad, cd, hc, hr, hle, hj, hf⟩ := hh k hkl
    exact ⟨Ak, ck, Ad, cd, hc, hr, hle, JsF.succ hj, hf⟩

/-- the values of a row that is being made: what its cells are, and their rows -/
def KidsF (w : World) (F : Nat → Prop) (d : Nat) (l : List JT) (xs : List Value) : Prop :=
  xs.length = l.length * 5 ∧ ∀ k (h : k < l.length), ∃ Ak ck Ad cd, (∀ j, j < 5 → xs[k * 5 + j]? = (jcells l[k] Ak ck Ad cd)[j]?) ∧ JInF w F d l[k] Ak ck Ad
theorem KidsF.nil (w : World) (F : Nat → Prop) (d : Nat) : KidsF w F d [] [] := ⟨rfl, fun k h => by simp at h⟩
theorem KidsF.keep {w w' : World} {F F' : Nat → Prop} {d : Nat} {l : List JT} {xs : List Value} (h : KidsF w F d l xs) (hk : KeepF F w w') (hF : ∀ b, F b → b < w.heap.size → F' b) : KidsF w' F' d l xs :=
  ⟨h.1, fun k hkl => by
    obtain ⟨Ak, ck, Ad, cd, hc, hj⟩ := h.2 k hkl
    exact ⟨Ak, ck, Ad, cd, hc, hj.keep hk hF⟩⟩
theorem KidsF.snoc {w : World} {F : Nat → Prop} {d : Nat} {l : List JT} {xs : List Value} (h : KidsF w F d l xs) {j : JT} {Ak Ad : Option Addr} {ck cd : Nat} (hj : JInF w F d j Ak ck Ad) : KidsF w F d (l ++ [j]) (xs ++ jcells j Ak ck Ad cd) := by
  refine ⟨by rw [List.length_append, List.length_append, h.1]; simp [jcells]; omega, fun k hk => ?_⟩
  by_cases hkl : k < l.length
  · obtain ⟨Ak', ck', Ad', cd', hc, hj'⟩ := h.2 k hkl
    rw [List.getElem_append_left hkl]
    refine ⟨Ak', ck', Ad', cd', fun i hi => ?_, hj'⟩
    rw [List.getElem?_append_left (by rw [h.1]; omega)]
    exact hc i hi
  · have hkn : k = l.length := by simp at hk; omega
    have hget : (l ++ [j])[k] = j := by
      rw [List.getElem_append_right (by omega)]; simp
    rw [hget]
    refine ⟨Ak, ck, Ad, cd, fun i hi => ?_, hj⟩
    rw [List.getElem?_append_right (by rw [h.1]; omega), h.1, hkn]
    congr 1
    omega
/-- the row that was made -/
theorem KidsF.made {w : World} {F F' : Nat → Prop} {d n c base : Nat} {t : TypeId} {l : List JT} {xs : List Value} {A : Option Addr} (h : KidsF w F d l xs) (hn : n = l.length) (ho : w.ownsRow base t 5 (.slice A n c) n xs) (hF : ∀ b, F b → b < w.heap.size → F' b) (hA : ∀ b, (Value.slice A n c).ownBlock = some b → F' b) : JsF w F' (d + 1) l A := fun h0 => by
  subst hn
  obtain ⟨b, o, e, hb, hc⟩ := (Rd.of_own ho).2 h0
  subst e
  obtain ⟨g, cap, hv, _, hlt⟩ := ho.form h0
  have hbo : (Value.slice (some ⟨b, o, none⟩) l.length c).ownBlock = some b := by
    injection hv with h1 h2 h3
    injection h1 with h1
    injection h1 with h1 h4 h5
    subst h4
    rfl
  refine ⟨b, o, rfl, hA b hbo, hb, fun k hkl => ?_⟩
  obtain ⟨Ak, ck, Ad, cd, hk, hj⟩ := h.2 k hkl
  have hj' := hj.keep (KeepF.refl F w) hF
  refine ⟨Ak, ck, Ad, cd, fun i u hu => hc _ _ ?_, hj'.1, hj'.2.1, hj'.2.2.1, hj'.2.2.2⟩
  have hi : i < 5 := by
    have := (List.getElem?_eq_some_iff.1 hu).1
    simpa [jcells] using this
  rw [hk i hi]; exact hu
end Go.Proofs.YtgpjcjnimheglaaDoor
/-
  THE PLAIN LAW of tokens, the document's way: escapes digit by digit.
-/
namespace Go.Proofs.YtgpjcjnimheglaaDoor.Lx

/-- how many bytes, at most so many, are digits of sixteen -/
def hexC : Nat → List UInt8 → Nat
  | 0, _ => 0
  | _ + 1, [] => 0
  | f + 1, b :: t => if (hexV b).isSome then hexC f t + 1 else 0

theorem hexC_le : ∀ (f : Nat) (l : List UInt8), hexC f l ≤ f ∧ hexC f l ≤ l.length
  | 0, _ => by simp [hexC]
  | _ + 1, [] => by simp [hexC]
  | f + 1, b :: t => by
    have := hexC_le f t
    simp only [hexC]
    split
    · simp only [List.length_cons]; omega
    · simp
theorem hexC_at : ∀ (f : Nat) (l : List UInt8) (j : Nat), j < hexC f l → ∃ b d, l[j]? = some b ∧ hexV b = some d
  | 0, _, _, h => by simp [hexC] at h
  | _ + 1, [], _, h => by simp [hexC] at h
  | f + 1, b :: t, j, h => by
    simp only [hexC] at h
    split at h
    · rename_i hb
      cases j with
      | zero =>
        obtain ⟨d, hd⟩ := Option.isSome_iff_exists.1 hb
        exact ⟨b, d, rfl, hd⟩
      | succ j =>
        obtain ⟨b', d, h1, h2⟩ := hexC_at f t j (by omega)
        exact ⟨b', d, by simpa using h1, h2⟩
    · omega
theorem hexC_end : ∀ (f : Nat) (l : List UInt8), hexC f l < f → ∀ b, l[hexC f l]? = some b → hexV b = none
  | 0, _, h, _, _ => by omega
  | _ + 1, [], _, _, h => by simp [hexC] at h
  | f + 1, b :: t, h, c, hc => by
    simp only [hexC] at h hc
    split at h
    · rename_i hb
      rw [if_pos hb] at hc
      exact hexC_end f t (by omega) c (by simpa using hc)
    · rename_i hb
      rw [if_neg hb] at hc
      simp at hc
      subst hc
      simpa using hb

theorem hexN_snoc : ∀ (l : List UInt8) (a n : Nat) (b : UInt8) (d : Nat), hexN a l = some n → hexV b = some d → hexN a (l ++ [b]) = some (n * 16 + d)
  | [], a, n, b, d, h, hb => by simp only [hexN] at h; injection h with h; subst h; simp [hexN, hb]
  | c :: t, a, n, b, d, h, hb => by
    simp only [List.cons_append, hexN] at h ⊢
    cases hc : hexV c with
    | none => rw [hc] at h; simp at h
    | some x => rw [hc] at h; exact hexN_snoc t _ n b d h hb
theorem hexN_take (f : Nat) (l : List UInt8) : ∀ j, j ≤ hexC f l → ∃ n, hexN 0 (l.take j) = some n ∧ n < 16 ^ j
  | 0, _ => ⟨0, rfl, by simp⟩
  | j + 1, h => by
    obtain ⟨n, hn, hl⟩ := hexN_take f l j (by omega)
    obtain ⟨b, d, hb, hd⟩ := hexC_at f l j (by omega)
    refine ⟨n * 16 + d, ?_, ?_⟩
    · rw [List.take_add_one, hb]
      exact hexN_snoc _ _ _ _ _ hn hd
    · have := (hex_no b d hd).2.2.2.2
      rw [Nat.pow_succ]; omega

/-- the digits are all that stands ahead of the sign that closes -/
theorem hex_while (l : List UInt8) (h : l[hexC 6 l]? = some 125) : l.takeWhile (· != 125) = l.take (hexC 6 l) := by
  have key : ∀ (m : Nat) (l : List UInt8), (∀ j, j < m → ∃ b d, l[j]? = some b ∧ hexV b = some d) → l[m]? = some 125 → l.takeWhile (· != 125) = l.take m := by
    intro m
    induction m with
    | zero =>
      intro l _ h
      cases l with
      | nil => simp at h
      | cons a t => simp at h; subst h; simp
    | succ m ih =>
      intro l hj h
      cases l with
      | nil => simp at h
      | cons a t =>
        obtain ⟨b, d, hb, hd⟩ := hj 0 (by omega)
        simp at hb; subst hb
        have ha : (a != 125) = true := by simp; exact (hex_no a d hd).2.1
        rw [List.takeWhile_cons, if_pos ha, List.take_succ_cons]
        congr 1
        exact ih t (fun j hj' => by simpa using hj (j + 1) (by omega)) (by simpa using h)
  exact key _ l (hexC_at 6 l) h

theorem code_ref (r : List UInt8) (n : Nat) (hn : hexN 0 (r.take (hexC 6 r)) = some n) :
    codeM (123 :: r) = if hexC 6 r = 0 ∨ r[hexC 6 r]? ≠ some 125 ∨ n > 1114111 ∨ (55296 ≤ n ∧ n ≤ 57343) then none else some (n, hexC 6 r + 2) := by
  have hle := hexC_le 6 r
  by_cases hc : r[hexC 6 r]? = some 125
  · have hw := hex_while r hc
    have hm : (125 : UInt8) ∈ r := List.mem_of_getElem? hc
    have hlen : (r.take (hexC 6 r)).length = hexC 6 r := by rw [List.length_take]; omega
    unfold codeM
    simp only [ne_eq, not_true_eq_false, if_false, hm, hw, hlen, hn]
    by_cases h0 : hexC 6 r = 0
    · rw [if_pos (Or.inl (by omega)), if_pos (Or.inl h0)]
    · rw [if_neg (by omega)]
      by_cases h1 : n > 1114111 ∨ (55296 ≤ n ∧ n ≤ 57343)
      · rw [if_pos h1, if_pos (Or.inr (Or.inr h1))]
      · rw [if_neg h1, if_neg]
        rintro (h | h | h)
        · exact h0 h
        · exact h hc
        · exact h1 h
  · rw [if_pos (Or.inr (Or.inl hc))]
    cases hx : codeM (123 :: r) with
    | none => rfl
    | some x =>
      exfalso
      unfold codeM at hx
      simp only [ne_eq, not_true_eq_false, if_false] at hx
      split at hx
      · cases hx
      · rename_i hm
        split at hx
        · cases hx
        · rename_i hl
          split at hx
          · cases hx
          · rename_i m hh
            obtain ⟨t, ht⟩ := take_while_at r (by simpa using hm)
            have hall := hexN_all _ _ _ hh
            generalize hD : r.takeWhile (· != 125) = D at *
            have e : hexC 6 r = D.length := by
              have key : ∀ (f : Nat) (D t : List UInt8), (∀ b ∈ D, ∃ d, hexV b = some d) → D.length ≤ f → hexC f (D ++ 125 :: t) = D.length := by
                intro f
                induction f with
                | zero => intro D t _ hl; simp [hexC]; omega
                | succ f ih =>
                  intro D t hd hl
                  cases D with
                  | nil => simp only [List.nil_append, hexC]; rw [if_neg (by decide)]; rfl
                  | cons b D =>
                    obtain ⟨d, hd'⟩ := hd b (by simp)
                    simp only [List.cons_append, hexC]
                    rw [if_pos (by rw [hd']; rfl), ih D t (fun x hx => hd x (by simp [hx])) (by simpa using hl)]
                    rfl
              rw [ht]
              exact key 6 D t hall (by omega)
            apply hc
            rw [e, ht]
            simp
theorem code_no (l : List UInt8) (h : l.head? ≠ some 123) : codeM l = none := by
  unfold codeM
  cases l with
  | nil => rfl
  | cons a r =>
    simp only
    rw [if_pos]
    intro e; subst e; exact h rfl

end Go.Proofs.YtgpjcjnimheglaaDoor.Lx
/-
  THE WALKS of strconv.ParseInt at base 16, where a text has one to six digits of sixteen (after the shelf's walk at base 10).
-/
namespace Go.Proofs.YtgpjcjnimheglaaDoor
open Go.RowKit

theorem or_hex : ∀ c : Fin 256, (65 ≤ c.val → c.val ≤ 70 → bits .or .u8 (c.val : Int) 32 = (c.val : Int) + 32) ∧ (97 ≤ c.val → c.val ≤ 102 → bits .or .u8 (c.val : Int) 32 = (c.val : Int)) := by decide +kernel

theorem hex_ways (c : UInt8) (d : Nat) (h : Lx.hexV c = some d) : (48 ≤ c.toNat ∧ c.toNat ≤ 57 ∧ d = c.toNat - 48) ∨ (∃ v : Int, bits .or .u8 (c.toNat : Int) 32 = v ∧ v = 87 + (d : Int) ∧ 10 ≤ d ∧ d ≤ 15 ∧ 57 < c.toNat ∧ c.toNat ≠ 95) := by
  have h0 := or_hex ⟨c.toNat, c.toNat_lt⟩
  unfold Lx.hexV at h
  split at h
  · injection h with h; exact .inl ⟨by omega, by omega, h.symm⟩
  · split at h
    · rename_i h2
      injection h with h
      exact .inr ⟨_, rfl, by rw [h0.2 h2.1 h2.2]; show (c.toNat : Int) = _; omega, by omega, by omega, by omega, by omega⟩
    · split at h
      · rename_i h2
        injection h with h
        exact .inr ⟨_, rfl, by rw [h0.1 h2.1 h2.2]; show (c.toNat : Int) + 32 = _; omega, by omega, by omega, by omega, by omega⟩
      · cases h

set_option maxRecDepth 100000 in
theorem lower_walk (c : Int) (w : World) : Calls Tryd.prog 82 #[.int .u8 c] w fun e w' => e = .returned (.int .u8 (bits .or .u8 c 32)) ∧ w' = w := by
  go_enter Tryd.func82, Tryd.ntmps82
  go_wp2
  go_ret
  exact ⟨rfl, rfl⟩

set_option maxHeartbeats 8000000 in
set_option maxRecDepth 100000 in
theorem hexuint_walk (l : Bs) (w : World) (h1 : 1 ≤ l.length) (h6 : l.length ≤ 6) (hall : ∀ b ∈ l, ∃ d, Lx.hexV b = some d) (n : Nat) (hn : Lx.hexN 0 l = some n) :
    Calls Tryd.prog 73 #[.string ⟨l.toArray⟩, .int .i64 16, .int .i64 32] w fun e w' => e = .returned (.tuple #[.int .u64 n, .nilIface]) ∧ Below w.heap.size w w' := by
  have hne : (l == []) = false := by cases l <;> simp at h1 ⊢
  have hcv := Lib.run_convert_string_bytes (P := Tryd.prog) w 9 35 5 ⟨l.toArray⟩ (u := .string) Tryd.underlying9 Tryd.underlying35 Tryd.underlying5
  have hB : ∀ j (h : j < l.length), (Lib.bytesWorld w 5 ⟨l.toArray⟩).cell? ⟨w.heap.size, j, none⟩ = some (.int .u8 l[j].toNat) := fun j hj => by
    have := Lib.bytesWorld_cell w 5 ⟨l.toArray⟩ j (by rw [mk_size]; exact hj)
    rw [this]
    simp [List.getD, hj]
  have hbw : Below w.heap.size w (Lib.bytesWorld w 5 ⟨l.toArray⟩) := Lib.bytesWorld_below _ _ _
  have hsz : (⟨l.toArray⟩ : ByteArray).size = l.length := mk_size l
  rw [hsz] at hcv
  generalize Lib.bytesWorld w 5 ⟨l.toArray⟩ = W1 at *
  have hmv : IntKind.u64.wrap (IntKind.u64.wrap 4294967296 - 1) = 4294967295 := by
    rw [IntKind.wrap_u64, IntKind.wrap_u64]
    decide
  have HB := Lib.hid hB
  have Hall := Lib.hid hall
  have Hn := Lib.hid hn
  clear hB hall hn hsz
  go_enter Tryd.func73, Tryd.ntmps73
  go_wp2
  go_loop [12, 13, 101] (fun vu vn vi => ∃ (k acc : Nat) (a : Int), vu = .bool false ∧ vn = .int .u64 a ∧ vi = .int .i64 k ∧ k ≤ l.length ∧ 0 ≤ a ∧ a < 16777216 ∧ Hid (a = (acc : Int) ∧ Lx.hexN 0 (l.take k) = some acc)) (fun _ _ vi => l.length - (intOf vi).toNat)
  case atStart => exact ⟨0, 0, 0, rfl, rfl, rfl, by omega, by omega, by omega, rfl, rfl⟩
  case round =>
    obtain ⟨k, acc, a, rfl, rfl, rfl, hk, ha0, ha1, hh⟩ := hrel
    by_cases hkn : k < l.length
    · have hc := HB.out k hkn
      obtain ⟨d, hd⟩ := Hall.out l[k] (List.getElem_mem hkn)
      have hnx : Hid (Lx.hexN 0 (l.take (k + 1)) = some (acc * 16 + d)) := by
        show _ = _
        rw [List.take_succ_eq_append_getElem hkn]
        exact Lx.hexN_snoc _ _ _ _ _ hh.out.2 hd
      have hacc2 : a * 16 + (d : Int) < 16777216 := by
        have hae := hh.out.1
        have h2 : ∀ (t : Bs) (a m : Nat), Lx.hexN a t = some m → m < (a + 1) * 16 ^ t.length := by
          intro t
          induction t with
          | nil => intro a m h; simp only [Lx.hexN] at h; injection h with h; subst h; simp
          | cons b t ih =>
            intro a m h
            simp only [Lx.hexN] at h
            cases hb : Lx.hexV b with
            | none => rw [hb] at h; simp at h
            | some x =>
              rw [hb] at h
              have h3 := ih _ _ h
              have h4 := (Lx.hex_no b x hb).2.2.2.2
              have h5 : (a * 16 + x + 1) * 16 ^ t.length ≤ (a + 1) * 16 * 16 ^ t.length := Nat.mul_le_mul_right _ (by omega)
              rw [List.length_cons, Nat.pow_succ, Nat.mul_comm (16 ^ t.length) 16, ← Nat.mul_assoc]
              omega
        have h3 := h2 _ _ _ hnx.out
        have h4 : (l.take (k + 1)).length ≤ 6 := by rw [List.length_take]; omega
        have h5 : 16 ^ (l.take (k + 1)).length ≤ 16 ^ 6 := Nat.pow_le_pow_right (by omega) h4
        omega
      have hways := hex_ways l[k] d hd
      have hd16' : (d : Int) < 16 := by have := (Lx.hex_no _ _ hd).2.2.2.2; omega
      have hd16 := (Lx.hex_no _ _ hd).2.2.2.2
      have hc256 : l[k].toNat < 256 := l[k].toNat_lt
      generalize l[k] = c at *
      clear hd
      have hlo := lower_walk (c.toNat : Int)
      rcases hways with ⟨g1, g2, g3⟩ | ⟨v, g1, g2, g3, g4, g5, g6⟩
      · subst g3
        go_wp2
        go_round
        case rel => exact ⟨k + 1, acc * 16 + (c.toNat - 48), a * 16 + ((c.toNat : Int) - 48), rfl, by congr 1 <;> omega, by go_num, by omega, by omega, by omega, by have := hh.out.1; omega, hnx.out⟩
        case measure => simp [intOf]; omega
      · rw [g1] at hlo
        subst g2
        have hus : ((c.toNat : Int) == 95) = false := by simp; omega
        clear g1 g6
        go_wp2_with (go_at_call 82; refine (hlo _).mono ?_; rintro e w' ⟨rfl, rfl⟩)
        go_round
        case rel => exact ⟨k + 1, acc * 16 + d, a * 16 + (d : Int), rfl, by congr 1 <;> omega, by go_num, by omega, by omega, by omega, by have := hh.out.1; omega, hnx.out⟩
        case measure => simp [intOf]; omega
    · obtain rfl : k = l.length := by omega
      have hfin : Hid (a = (n : Int)) := by
        have h2 := hh.out.2
        rw [List.take_length, Hn.out] at h2
        injection h2 with h2
        show _ = _
        rw [hh.out.1, h2]
      go_wp2
      go_ret2
      exact ⟨by rw [hfin.out]; rfl, hbw⟩
end Go.Proofs.YtgpjcjnimheglaaDoor
