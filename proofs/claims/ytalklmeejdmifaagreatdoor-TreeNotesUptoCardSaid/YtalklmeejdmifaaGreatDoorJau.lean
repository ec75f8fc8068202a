/-
  JOINED of the texts UP YP YG TY LT
-/
import Derived.Test.YtalklmeejdmifaaGreatDoorJat
import Derived.StillTailTactics
import Derived.Handy
import Derived.Deep.RegionHeld3
import Derived.Maps.OwnOps
import Derived.Carry
import Derived.Deep.CutBlock
import Derived.Deep.AppendLies
import Derived.Deep.QuietTactic
import Derived.BigQuiet
import Derived.Lib.RuneBytes
import Derived.Lib.Strings
import Derived.Deep.DeepCutAuto
import Derived.Lib.ConvBytes
import Derived.Laws.Strings3
import Derived.Laws.Closers25
import Derived.Laws.Closers25b
import Derived.BigCall
import Derived.BigGuard
import Derived.Test.YtalklmeejdmifaaGreatDoorShelfX
import Derived.Shelf.Spec.BytesIndexFunc
import Derived.Lib.IndexMore
import Derived.Test.YtalklmeejdmifaaGreatDoorRows
import Derived.WalkKit
import Derived.WalkSpells
import Derived.WalkLawsBesides
import Derived.Below
import Derived.Laws.OwnMore
import Derived.Deep.Draws
import Derived.Lib.Hide
import Derived.IntWalk
import Derived.Test.YtalklmeejdmifaaGreatDoorShelfW
import Derived.Shelf.Strings.SlTrimAscii
import Derived.Lib.LaidTab
import Derived.Lib.AtoiAll
import Derived.Lib.IndexLaws
import Derived.Lib.SlTrimSet
import Derived.Lib.ItoaNum
import Derived.Lib.Atoi
import Derived.WalkMore
import Derived.ScopeJumps
import Derived.Laws.AppendOwnNone
import Derived.Test.YtalklmeejdmifaaGreatDoorShelf
import Derived.Shelf.Strings.Builder1
import Derived.Test.YtalklmeejdmifaaGreatDoorJan
import Derived.Test.YtalklmeejdmifaaGreatDoorJab
import Derived.Test.YtalklmeejdmifaaGreatDoorJag
/-
  WALKS of package tree: Print.
-/
namespace Go.Proofs.YtalklmeejdmifaaGreatDoor
open Go.RowKit

/-- the closure that prints, as a value -/
def prClo (b pb : Nat) : Value := .func (.func 41) #[] #[.pointer (some ⟨b, 0, none⟩), .pointer (some ⟨pb, 0, none⟩)]
/-- what printing a part does: its text is written into the builder -/
def PrC (p : Tr.PT) : Prop := ∀ (w : World) (B b pb : Nat) (x : Bs) (F : Nat → Prop) (k tok : Nat) (t : Bs) (A : Option Addr) (n : Nat), IsB B b x w → Blk w pb 100 #[prClo b pb] → (∀ y, F y → y < B) → B ≤ w.heap.size →
  NdF w F p [.int .i64 (k : Int), .int .i64 (tok : Int), .string ⟨t.toArray⟩, .slice A n n] → x.length + (Tr.textOf p).length ≤ 100000000 →
  Calls Tryz.prog 41 #[.agg #[.int .i64 (k : Int), .int .i64 (tok : Int), .string ⟨t.toArray⟩, .slice A n n], .pointer (some ⟨b, 0, none⟩), .pointer (some ⟨pb, 0, none⟩)] w fun e w' => e = .returned (.tuple #[]) ∧ IsB B b (x ++ Tr.textOf p) w' ∧ Below B w w' ∧ KeepX [99, 5] w w'
theorem Blk.keepX {w w' : World} {q : Nat} {t : TypeId} {cs : Array Value} {T : List TypeId} (h : Blk w q t cs) (hk : KeepX T w w') (ht : t ∉ T) : Blk w' q t cs := hk q _ h fun u hu e => ht (by injection e with e; rw [e]; exact hu)
theorem texts_take (l : List Tr.PT) (i : Nat) (h : i < l.length) : Tr.textsOf (l.take (i + 1)) = Tr.textsOf (l.take i) ++ Tr.textOf l[i] := by
  rw [List.take_succ_eq_append_getElem h, Tr.texts_app]
  simp only [Tr.textsOf, List.append_nil]
theorem texts_le : ∀ (l : List Tr.PT) (i : Nat), (Tr.textsOf (l.take i)).length ≤ (Tr.textsOf l).length
  | [], i => by simp
  | p :: l, 0 => by simp [Tr.textsOf]
  | p :: l, i + 1 => by
    have := texts_le l i
    simp only [List.take_succ_cons, Tr.textsOf, List.length_append]
    omega
set_option maxHeartbeats 16000000 in
set_option maxRecDepth 100000 in
theorem print_core {w : World} {B b pb k tok : Nat} {x t : Bs} {A : Option Addr} {l : List Tr.PT} {vs : List Value} {F : Nat → Prop} (h : IsB B b x w) (hpb : Blk w pb 100 #[prClo b pb]) (hF : ∀ y, F y → y < B) (hBw : B ≤ w.heap.size)
    (hr : RowF w F A vs) (hn : NdsF w F l vs) (hl : l.length ≤ 1000000000) (hlen : x.length + (if k = 0 then t else []).length + (Tr.textsOf l).length ≤ 100000000) (IH : ∀ p ∈ l, PrC p) :
    Calls Tryz.prog 41 #[.agg #[.int .i64 (k : Int), .int .i64 (tok : Int), .string ⟨t.toArray⟩, .slice A l.length l.length], .pointer (some ⟨b, 0, none⟩), .pointer (some ⟨pb, 0, none⟩)] w fun e w' => e = .returned (.tuple #[]) ∧ IsB B b (x ++ ((if k = 0 then t else []) ++ Tr.textsOf l)) w' ∧ Below B w w' ∧ KeepX [99, 5] w w' := by
  have hd : Below w.heap.size w (w.alloc (.cells #[.int .i64 (k : Int), .int .i64 (tok : Int), .string ⟨t.toArray⟩, .slice A l.length l.length] 26)) := (Below.refl _ _).alloc (Nat.le_refl _) _
  have hb : Blk (w.alloc (.cells #[.int .i64 (k : Int), .int .i64 (tok : Int), .string ⟨t.toArray⟩, .slice A l.length l.length] 26)) w.heap.size 26 #[.int .i64 (k : Int), .int .i64 (tok : Int), .string ⟨t.toArray⟩, .slice A l.length l.length] := Blk.new _ _ _
  have hB1 : Below B w (w.alloc (.cells #[.int .i64 (k : Int), .int .i64 (tok : Int), .string ⟨t.toArray⟩, .slice A l.length l.length] 26)) := hd.mono hBw
  have hx1 := (KeepX.refl [99, 5] w).alloc (.cells #[.int .i64 (k : Int), .int .i64 (tok : Int), .string ⟨t.toArray⟩, .slice A l.length l.length] 26)
  have h1 := h.alloc (.cells #[.int .i64 (k : Int), .int .i64 (tok : Int), .string ⟨t.toArray⟩, .slice A l.length l.length] 26)
  have hpb1 := hpb.alloc (.cells #[.int .i64 (k : Int), .int .i64 (tok : Int), .string ⟨t.toArray⟩, .slice A l.length l.length] 26)
  obtain ⟨bx, hbx⟩ : ∃ y, y = w.heap.size := ⟨_, rfl⟩
  rw [← hbx] at hb
  obtain ⟨tx, htx⟩ : ∃ tx, tx = (if k = 0 then t else []) := ⟨_, rfl⟩
  rw [← htx] at hlen ⊢
  have Ht0 : Hid (k = 0 → tx = t) := fun e => by rw [htx, if_pos e]
  have Ht1 : Hid (¬ k = 0 → tx = []) := fun e => by rw [htx, if_neg e]
  clear htx
  go_enter Tryz.func41, Tryz.ntmps41
  go_upto_region 1 with fail
  rw [← hbx]
  clear hbx
  generalize w.alloc (.cells #[.int .i64 (k : Int), .int .i64 (tok : Int), .string ⟨t.toArray⟩, .slice A l.length l.length] 26) = w1 at *
  have b0 := hb.cell 0
  have b2 := hb.cell 2
  simp at b0 b2
  go_upto_if 8 with fail
  go_cut [8] (fun _ wc => IsB B b (x ++ tx) wc ∧ Below B w wc ∧ KeepX [99, 5] w wc ∧ Blk wc bx 26 #[.int .i64 (k : Int), .int .i64 (tok : Int), .string ⟨t.toArray⟩, .slice A l.length l.length] ∧ Blk wc pb 100 #[prClo b pb])
  case first =>
    have hBw1 : B ≤ w1.heap.size := Nat.le_trans hBw hB1.size
    by_cases k0 : k = 0
    · have htx := Lib.hid (Ht0.out k0)
      have hw := writeStr_walk h1 t (by have h := htx.out; rw [h] at hlen; omega) hBw1
      clear Ht0 Ht1 hlen
      subst k0
      go_wp2_with fail
      refine hw.mono ?_
      clear hw
      rintro e w2 ⟨rfl, h2, hb2, hk2⟩
      go_wp2_with fail
      go_meet
      exact ⟨by rw [htx.out]; exact h2, hB1.trans hb2, hx1.trans hk2, hb.keepX hk2 (by decide), hpb1.keepX hk2 (by decide)⟩
    · have htx := Lib.hid (Ht1.out k0)
      have e0 : ((k : Int) == 0) = false := by simp; omega
      clear Ht0 Ht1 hlen k0
      go_wp2_with fail
      go_meet
      exact ⟨by rw [htx.out, List.append_nil]; exact h1, hB1, hx1, hb, hpb1⟩
  case rest =>
  clear h1 hpb1 hb b0 b2 hB1 hx1 Ht0 Ht1 hd h hpb
  obtain ⟨h2, hB2, hx2, hb2, hpb2⟩ := hcut
  have c3 := hb2.cell 3
  simp at c3
  have Hl := Lib.hid hl
  have Hlen := Lib.hid hlen
  clear hl hlen hb2
  go_wp2_with fail
  go_loopg [15] l.length (fun m v wr => ∃ i : Nat, v = .int .i64 (i : Int) ∧ i ≤ l.length ∧ l.length - i ≤ m ∧ IsB B b (x ++ tx ++ Tr.textsOf (l.take i)) wr ∧ Below B w wr ∧ KeepX [99, 5] w wr ∧ Blk wr pb 100 #[prClo b pb])
  case atStart => exact ⟨0, rfl, Nat.zero_le _, Nat.le_refl _, by simpa [Tr.textsOf] using h2, hB2, hx2, hpb2⟩
  case round =>
    clear h2 hB2 hx2 hpb2 c3
    obtain ⟨i, rfl, hi, hm, hs, hB, hx, hpb⟩ := hrel
    have hBw2 : B ≤ wr.heap.size := Nat.le_trans hBw hB.size
    by_cases hlt : i < l.length
    · have ii0 : (0 : Int) ≤ (i : Int) := by omega
      have ii1 : (i : Int) < (l.length : Int) := by omega
      obtain ⟨ka, kb, kt, kA, kn, v0, v1, v2, v3, hnd⟩ := hn.at_ hlt
      obtain ⟨ba, oa, rfl, hFb, hba, hca⟩ := hr (by have := hn.len; omega)
      have hbB := hF _ hFb
      have e0 := hca _ _ v0
      have e1 := hca _ _ v1
      have e2 := hca _ _ v2
      have e3 := hca _ _ v3
      rw [← Nat.add_assoc] at e1 e2 e3
      have q0 := (hB.cell (p := ⟨ba, oa + i * 4, none⟩) hbB).trans e0
      have q1 := (hB.cell (p := ⟨ba, oa + i * 4 + 1, none⟩) hbB).trans e1
      have q2 := (hB.cell (p := ⟨ba, oa + i * 4 + 2, none⟩) hbB).trans e2
      have q3 := (hB.cell (p := ⟨ba, oa + i * 4 + 3, none⟩) hbB).trans e3
      have HT := Lib.hid (texts_take l i hlt)
      have hle := texts_le l (i + 1)
      rw [HT.out, List.length_append] at hle
      have hpr := IH l[i] (List.getElem_mem hlt)
      have hnd2 := NdF.keep (w' := wr) (F' := F) (Nat.le_trans (Nat.le_refl _) hB.size) (fun y hy _ => ⟨hB.block y (hF y hy), hy⟩) _ _ hnd
      have Hsz : Hid ((x ++ tx ++ Tr.textsOf (l.take i)).length + (Tr.textOf l[i]).length ≤ 100000000) := by show _ ≤ _; have := Hlen.out; simp only [List.length_append]; omega
      have HY : Hid (x ++ tx ++ Tr.textsOf (l.take (i + 1)) = (x ++ tx ++ Tr.textsOf (l.take i)) ++ Tr.textOf l[i]) := by show _ = _; rw [HT.out, List.append_assoc (x ++ tx)]
      clear HT
      generalize l[i] = p at *
      have Hlt := Lib.hid hlt
      have Hm := Lib.hid hm
      clear v0 v1 v2 v3 hnd hca e0 e1 e2 e3 hlt hm hi hle
      generalize x ++ tx ++ Tr.textsOf (l.take i) = y at *
      have hda : Below wr.heap.size wr (wr.alloc (.cells #[.int .i64 (ka : Int), .int .i64 (kb : Int), .string ⟨kt.toArray⟩, .slice kA kn kn] 26)) := (Below.refl _ _).alloc (Nat.le_refl _) _
      have hbk : Blk (wr.alloc (.cells #[.int .i64 (ka : Int), .int .i64 (kb : Int), .string ⟨kt.toArray⟩, .slice kA kn kn] 26)) wr.heap.size 26 #[.int .i64 (ka : Int), .int .i64 (kb : Int), .string ⟨kt.toArray⟩, .slice kA kn kn] := Blk.new _ _ _
      have hs := hs.alloc (.cells #[.int .i64 (ka : Int), .int .i64 (kb : Int), .string ⟨kt.toArray⟩, .slice kA kn kn] 26)
      have hpb := hpb.alloc (.cells #[.int .i64 (ka : Int), .int .i64 (kb : Int), .string ⟨kt.toArray⟩, .slice kA kn kn] 26)
      have hx := hx.alloc (.cells #[.int .i64 (ka : Int), .int .i64 (kb : Int), .string ⟨kt.toArray⟩, .slice kA kn kn] 26)
      have hB := hB.trans (hda.mono hBw2)
      have hnd2 := NdF.keep (F' := F) hda.size (fun y hy hl => ⟨hda.block y hl, hy⟩) _ _ hnd2
      have hBw3 : B ≤ (wr.alloc (.cells #[.int .i64 (ka : Int), .int .i64 (kb : Int), .string ⟨kt.toArray⟩, .slice kA kn kn] 26)).heap.size := Nat.le_trans hBw2 hda.size
      obtain ⟨bk, hbk0⟩ : ∃ z, z = wr.heap.size := ⟨_, rfl⟩
      rw [← hbk0] at hbk
      go_upto_region 6 with fail
      rw [← hbk0]
      clear hbk0 q0 q1 q2 q3 hda
      generalize wr.alloc (.cells #[.int .i64 (ka : Int), .int .i64 (kb : Int), .string ⟨kt.toArray⟩, .slice kA kn kn] 26) = w3 at *
      have k0 := hbk.cell 0
      have k1 := hbk.cell 1
      have k2 := hbk.cell 2
      have k3 := hbk.cell 3
      have p0 := hpb.cell 0
      simp at k0 k1 k2 k3 p0
      unfold prClo at p0
      have hcl := hpr w3 B b pb y F ka kb kt kA kn hs hpb hF hBw3 hnd2 Hsz.out
      clear hs hnd2 hpr
      go_wp2_with fail
      refine hcl.mono ?_
      clear hcl k0 k1 k2 k3 p0
      rintro e w4 ⟨rfl, h4, hb4, hk4⟩
      have c1 : IntKind.i64.wrap ((i : Int) + 1) = (i : Int) + 1 := IntWalk.i64_in _ (by have := Hlt.out; have := Hl.out; omega)
      have hpb4 := hpb.keepX hk4 (by decide)
      go_wp2_with fail
      go_roundg (l.length - (i + 1))
      case rel => exact ⟨i + 1, by go_num, by have := Hlt.out; omega, Nat.le_refl _, by rw [HY.out]; exact h4, hB.trans hb4, hx.trans hk4, hpb4⟩
      case measure => have := Hlt.out; have := Hm.out; omega
    · obtain rfl : i = l.length := by omega
      have i1 : ¬ (l.length : Int) < (l.length : Int) := by omega
      have i2 : decide (l.length < l.length) = false := by simp
      rw [List.take_length] at hs
      clear hlt hi hm hpb
      go_wp2_with fail
      go_end0
      exact ⟨rfl, by rw [← List.append_assoc]; exact hs, hB, hx⟩
mutual
theorem print_all : ∀ p : Tr.PT, Tr.wfP p → PrC p
  | .leaf tk tt a, _ => fun w B b pb x F k tok t A n h hpb hF hBw hnd hlen => by
    unfold NdF at hnd
    simp only [List.cons.injEq, Value.int.injEq, Value.slice.injEq, true_and, and_true] at hnd
    obtain ⟨hk, htk, ht, hA, hn, _⟩ := hnd
    obtain rfl : k = 0 := by omega
    subst hA hn
    have ht' : t = tt := by simpa using ht
    subst ht'
    unfold Tr.textOf at hlen ⊢
    have := print_core (k := 0) (tok := tok) (x := x) (t := t) (A := none) (l := []) (vs := []) (F := F) h hpb hF hBw (fun h => absurd h (by simp)) rfl (by simp) (by simpa [Tr.textsOf] using hlen) (by simp)
    simpa [Tr.textsOf] using this
  | .gap gt a d, _ => fun w B b pb x F k tok t A n h hpb hF hBw hnd hlen => by
    unfold NdF at hnd
    simp only [List.cons.injEq, Value.int.injEq, Value.slice.injEq, true_and, and_true] at hnd
    obtain ⟨hk, htk, ht, hA, hn, _⟩ := hnd
    obtain rfl : k = 1 := by omega
    subst hA hn
    unfold Tr.textOf at hlen ⊢
    have := print_core (k := 1) (tok := tok) (x := x) (t := t) (A := none) (l := []) (vs := []) (F := F) h hpb hF hBw (fun h => absurd h (by simp)) rfl (by simp) (by simpa [Tr.textsOf] using hlen) (by simp)
    simpa [Tr.textsOf] using this
  | .branch bk a l, hw => fun w B b pb x F k tok t A n h hpb hF hBw hnd hlen => by
    unfold Tr.wfP at hw
    unfold NdF at hnd
    obtain ⟨A', vs, e, hr, hn⟩ := hnd
    simp only [List.cons.injEq, Value.int.injEq, Value.slice.injEq, true_and, and_true] at e
    obtain ⟨hk, htk, ht, hA, hnn, _⟩ := e
    obtain rfl : k = bk := by omega
    subst hA hnn
    unfold Tr.textOf at hlen ⊢
    have k0 : ¬ k = 0 := by omega
    have := print_core (k := k) (tok := tok) (x := x) (t := t) (F := F) h hpb hF hBw hr hn hw.2.1 (by rw [if_neg k0]; simpa using hlen) (prints_all l hw.2.2)
    rw [if_neg k0, List.nil_append] at this
    exact this
theorem prints_all : ∀ l : List Tr.PT, Tr.wfsP l → ∀ p ∈ l, PrC p
  | [], _, p, hp => absurd hp (by simp)
  | q :: l, hw, p, hp => by
    unfold Tr.wfsP at hw
    rcases List.mem_cons.1 hp with he | hp
    · rw [he]; exact print_all q hw.1
    · exact prints_all l hw.2 p hp
end
end Go.Proofs.YtalklmeejdmifaaGreatDoor
/-
  THE WALK of the law TreePrints.
-/
namespace Go.Proofs.YtalklmeejdmifaaGreatDoor
open Go.RowKit

theorem store_func (f : Go.Fn) (b c : Array Value) (a : Addr) (m : Mode) (w : World) : (store a (.func f b c) m).run Tryz.prog w = stored Tryz.prog w a (.func f b c) m := run_store Tryz.prog w a _ m rfl

set_option maxHeartbeats 4000000 in
set_option maxRecDepth 100000 in
theorem print_walk {w : World} {F : Nat → Prop} {p : Tr.PT} {k tok : Nat} {t : Bs} {A : Option Addr} {n : Nat} (hw : Tr.wfP p) (hn : NdF w F p [.int .i64 (k : Int), .int .i64 (tok : Int), .string ⟨t.toArray⟩, .slice A n n]) (hlen : (Tr.textOf p).length ≤ 100000000) :
    Calls Tryz.prog 13 #[.agg #[.int .i64 (k : Int), .int .i64 (tok : Int), .string ⟨t.toArray⟩, .slice A n n]] w fun e w' => e = .returned (.string ⟨(Tr.textOf p).toArray⟩) ∧ Below w.heap.size w w' := by
  have hd1 : Below w.heap.size w (w.alloc (.cells #[.int .i64 (k : Int), .int .i64 (tok : Int), .string ⟨t.toArray⟩, .slice A n n] 26)) := (Below.refl _ _).alloc (Nat.le_refl _) _
  have hk1 : Blk (w.alloc (.cells #[.int .i64 (k : Int), .int .i64 (tok : Int), .string ⟨t.toArray⟩, .slice A n n] 26)) w.heap.size 26 #[.int .i64 (k : Int), .int .i64 (tok : Int), .string ⟨t.toArray⟩, .slice A n n] := Blk.new _ _ _
  have hn1 := NdF.keep (F' := fun x => x < w.heap.size) hd1.size (fun x _ hl => ⟨hd1.block x hl, hl⟩) _ _ hn
  obtain ⟨bn, hbn⟩ : ∃ x, x = w.heap.size := ⟨_, rfl⟩
  have Hbn := Lib.hid hbn
  rw [← hbn] at hk1
  clear hn
  have hpr := print_all p hw
  go_enter Tryz.func13, Tryz.ntmps13
  go_upto_region 1 with fail
  rw [← hbn]
  clear hbn
  generalize w.alloc (.cells #[.int .i64 (k : Int), .int .i64 (tok : Int), .string ⟨t.toArray⟩, .slice A n n] 26) = w1 at *
  have hs1 : w.heap.size ≤ w1.heap.size := hd1.size
  have hB := IsB.fresh w1
  have hk2 := hk1.alloc (.cells #[.pointer none, .slice none 0 0] 99)
  have hd2 : Below w1.heap.size w1 (w1.alloc (.cells #[.pointer none, .slice none 0 0] 99)) := (Below.refl _ _).alloc (Nat.le_refl _) _
  have hz2 : (w1.alloc (.cells #[.pointer none, .slice none 0 0] 99)).heap.size = w1.heap.size + 1 := by simp
  have hP3 := Blk.new (w1.alloc (.cells #[.pointer none, .slice none 0 0] 99)) 100 #[.nilFunc]
  have hB3 := hB.alloc (.cells #[.nilFunc] 100)
  have hk3 := hk2.alloc (.cells #[.nilFunc] 100)
  have hd3 : Below w1.heap.size w1 ((w1.alloc (.cells #[.pointer none, .slice none 0 0] 99)).alloc (.cells #[.nilFunc] 100)) := hd2.alloc hd2.size _
  have hz3 : ((w1.alloc (.cells #[.pointer none, .slice none 0 0] 99)).alloc (.cells #[.nilFunc] 100)).heap.size = w1.heap.size + 2 := by simp
  have hkeep : ∀ (v : Value) (y : Nat), y < w1.heap.size + 1 → (((w1.alloc (.cells #[.pointer none, .slice none 0 0] 99)).alloc (.cells #[.nilFunc] 100)).setCell ⟨w1.heap.size + 1, 0, none⟩ v).heap[y]? = (w1.alloc (.cells #[.pointer none, .slice none 0 0] 99)).heap[y]? := fun v y hy =>
    (Below.heap_setCell _ ⟨w1.heap.size + 1, 0, none⟩ v y (by show y ≠ w1.heap.size + 1; omega)).trans (Below.heap_alloc _ _ y (by rw [hz2]; exact hy))
  rw [hz2] at hP3
  have hB4 := hB.keep (w' := ((w1.alloc (.cells #[.pointer none, .slice none 0 0] 99)).alloc (.cells #[.nilFunc] 100)).setCell ⟨w1.heap.size + 1, 0, none⟩ (prClo w1.heap.size (w1.heap.size + 1))) fun y hy _ => hkeep _ y (by rw [hz2] at hy; exact hy)
  have hk4 : Blk (((w1.alloc (.cells #[.pointer none, .slice none 0 0] 99)).alloc (.cells #[.nilFunc] 100)).setCell ⟨w1.heap.size + 1, 0, none⟩ (prClo w1.heap.size (w1.heap.size + 1))) bn 26 #[.int .i64 (k : Int), .int .i64 (tok : Int), .string ⟨t.toArray⟩, .slice A n n] := (hkeep _ bn (by have := hk1.lt; omega)).trans hk2
  have hP4 := hP3.set_ 0 (prClo w1.heap.size (w1.heap.size + 1))
  simp at hP4
  have hd4 := hd3.setCell (p := ⟨w1.heap.size + 1, 0, none⟩) (by show w1.heap.size ≤ w1.heap.size + 1; omega) (prClo w1.heap.size (w1.heap.size + 1))
  have c0 : ((w1.alloc (.cells #[.pointer none, .slice none 0 0] 99)).alloc (.cells #[.nilFunc] 100)).cell? ⟨w1.heap.size + 1, 0, none⟩ = some .nilFunc := hP3.cell 0
  have f0 := hP3.frozen 0
  have hn4 := NdF.keep (F' := fun x => x < w.heap.size) hd4.size (fun x hx hl => ⟨hd4.block x hl, hx⟩) _ _ hn1
  clear hP3 hB3 hk3 hkeep hB hk2 hd2 hz2 hd3 hz3 hk1 hn1
  have hs4 := hd4.size
  obtain ⟨b, hb⟩ : ∃ b, b = w1.heap.size := ⟨_, rfl⟩
  obtain ⟨pb, hpb⟩ : ∃ q, q = b + 1 := ⟨_, rfl⟩
  have Hb := Lib.hid hb
  go_upto_region 3 with fail
  rw [← hb, ← hpb] at hB4 hk4 hP4 hd4 c0 f0 hn4 hs4 ⊢
  clear hpb hb
  unfold prClo at *
  generalize ((w1.alloc (.cells #[.pointer none, .slice none 0 0] 99)).alloc (.cells #[.nilFunc] 100)) = w3 at *
  have hsf := fun a m w => store_func (.func 41) #[] #[.pointer (some ⟨b, 0, none⟩), .pointer (some ⟨pb, 0, none⟩)] a m w
  go_upto_region 4 with fail
  clear c0 f0 hsf
  generalize w3.setCell ⟨pb, 0, none⟩ (.func (.func 41) #[] #[.pointer (some ⟨b, 0, none⟩), .pointer (some ⟨pb, 0, none⟩)]) = w4 at *
  have hcl := hpr w4 b b pb [] _ k tok t A n hB4 hP4 (fun y hy => by have hy : y < w.heap.size := hy; have := Hb.out; omega) (by have := Hb.out; omega) hn4 (by simpa using hlen)
  rw [List.nil_append] at hcl
  have q0 := hP4.cell 0
  have k0 := hk4.cell 0
  have k1 := hk4.cell 1
  have k2 := hk4.cell 2
  have k3 := hk4.cell 3
  simp at q0 k0 k1 k2 k3
  have Hs := Lib.hid hs4
  have Hs1 := Lib.hid hs1
  clear hs4 hs1 hpr hn4
  go_wp2_with fail
  refine hcl.mono ?_
  clear hcl q0 k0 k1 k2 k3
  rintro e w5 ⟨rfl, h5, hb5, hx5⟩
  have hst := bString_walk h5 (by have := hb5.size; have := Hs.out; omega)
  go_wp2_with fail
  refine hst.mono ?_
  clear hst
  rintro e w6 ⟨rfl, hb6⟩
  go_wp2_with fail
  go_ret
  refine ⟨rfl, ?_⟩
  have e1 := Hb.out
  have e2 := Hs1.out
  exact hd1.trans (((hd4.trans hb5).trans hb6).mono (by omega))
end Go.Proofs.YtalklmeejdmifaaGreatDoor
/-
  WALKS of package tree: Notes.
-/
namespace Go.Proofs.YtalklmeejdmifaaGreatDoor
open Go.RowKit

/-- the closure that tells of a part, as a value -/
def ntClo (ob : Nat) : Value := .func (.func 45) #[] #[.pointer (some ⟨ob, 0, none⟩)]
/-- what Notes keeps while it looks at a kid -/
def NtK (w0 : World) (ob pb kb q base first last : Nat) (out : List Tr.Nt) (w : World) : Prop := NtI w0 ob out w ∧ Blk w pb 111 #[ntClo ob] ∧ Blk w kb 92 #[.pointer (some ⟨q, 0, none⟩), .int .i64 (base : Int), .int .i64 (first : Int), .int .i64 (last : Int)]
theorem Blk.keepN {w w' : World} {q : Nat} {t : TypeId} {cs : Array Value} {T : List TypeId} (h : Blk w q t cs) (hk : KeepX T w w') (ht : t ∉ T) : Blk w' q t cs := hk q _ h fun u hu e => ht (by injection e with e; rw [e]; exact hu)

set_option maxHeartbeats 4000000 in
set_option maxRecDepth 100000 in
theorem note2_walk {w0 w : World} {F : Nat → Prop} {ob pb kb q base first last : Nat} {p : Tr.PT} {v : Value} {out : List Tr.Nt} (hp : PtF w0 F p v) (hQ : NtQ base p) (hI : NtK w0 ob pb kb q base first last out w) (hl : out.length ≤ 1000000000) :
    Calls Tryz.prog 48 #[v, .pointer (some ⟨pb, 0, none⟩), .pointer (some ⟨kb, 0, none⟩)] w fun e w' => e = .returned (.tuple #[]) ∧ NtK w0 ob pb kb q base first last (Tr.stepN base p out) w' := by
  obtain ⟨hN, hP, hK⟩ := hI
  have hcl := note_any hp hQ hN hl
  obtain ⟨tp, qp, rfl⟩ := hp.form
  unfold NoteE at hcl
  have p0 := hP.cell 0
  have k1 := hK.cell 1
  simp [ntClo] at p0 k1
  generalize Tr.stepN base p out = res at *
  go_enter Tryz.func48, Tryz.ntmps48
  go_wp2_with fail
  refine hcl.mono ?_
  clear hcl p0 k1
  rintro e w1 ⟨rfl, hN1, hk1⟩
  go_wp2_with fail
  go_end0
  exact ⟨rfl, hN1, hP.keepN hk1 (by decide), hK.keepN hk1 (by decide)⟩
theorem note_grow (b : Nat) (p : Tr.PT) (x : List Tr.Nt) : x.length ≤ (Tr.stepN b p x).length := by unfold Tr.stepN; rw [List.length_append]; omega
mutual
theorem walkN_grow (b : Nat) : ∀ (p : Tr.PT) (x : List Tr.Nt), x.length ≤ (Tr.walkP (Tr.stepN b) p x).length
  | .leaf k t a, x => by unfold Tr.walkP; exact note_grow b _ x
  | .gap t a d, x => by unfold Tr.walkP; exact note_grow b _ x
  | .branch k a l, x => by unfold Tr.walkP; exact Nat.le_trans (note_grow b _ x) (walksN_grow b l _)
theorem walksN_grow (b : Nat) : ∀ (l : List Tr.PT) (x : List Tr.Nt), x.length ≤ (Tr.walksP (Tr.stepN b) l x).length
  | [], x => by unfold Tr.walksP; exact Nat.le_refl _
  | p :: l, x => by unfold Tr.walksP; exact Nat.le_trans (walkN_grow b p x) (walksN_grow b l _)
end
theorem kidsN_grow : ∀ (ks : List Tr.Kd) (x : List Tr.Nt), x.length ≤ (Tr.kidsN ks x).length
  | [], _ => Nat.le_refl _
  | k :: ks, x => Nat.le_trans (walkN_grow k.base k.part x) (kidsN_grow ks _)
theorem tailN_grow : ∀ (ts : List Tr.PT) (x : List Tr.Nt), x.length ≤ (Tr.tailN ts x).length
  | [], _ => Nat.le_refl _
  | p :: ts, x => Nat.le_trans (note_grow 0 p x) (tailN_grow ts _)
theorem kidsN_take (ks : List Tr.Kd) (i : Nat) (h : i < ks.length) (x : List Tr.Nt) : Tr.kidsN (ks.take (i + 1)) x = Tr.walkP (Tr.stepN ks[i].base) ks[i].part (Tr.kidsN (ks.take i) x) := by
  rw [List.take_succ_eq_append_getElem h]
  unfold Tr.kidsN
  rw [List.foldl_append]
  rfl
theorem tailN_take (ts : List Tr.PT) (i : Nat) (h : i < ts.length) (x : List Tr.Nt) : Tr.tailN (ts.take (i + 1)) x = Tr.stepN 0 ts[i] (Tr.tailN (ts.take i) x) := by
  rw [List.take_succ_eq_append_getElem h]
  unfold Tr.tailN
  rw [List.foldl_append]
  rfl
theorem kidsN_le (ks : List Tr.Kd) (i : Nat) (x : List Tr.Nt) : (Tr.kidsN (ks.take i) x).length ≤ (Tr.kidsN ks x).length := by
  have h := kidsN_grow (ks.drop i) (Tr.kidsN (ks.take i) x)
  have e : Tr.kidsN (ks.drop i) (Tr.kidsN (ks.take i) x) = Tr.kidsN ks x := by
    unfold Tr.kidsN
    rw [← List.foldl_append, List.take_append_drop]
  rwa [e] at h
theorem tailN_le (ts : List Tr.PT) (i : Nat) (x : List Tr.Nt) : (Tr.tailN (ts.take i) x).length ≤ (Tr.tailN ts x).length := by
  have h := tailN_grow (ts.drop i) (Tr.tailN (ts.take i) x)
  have e : Tr.tailN (ts.drop i) (Tr.tailN (ts.take i) x) = Tr.tailN ts x := by
    unfold Tr.tailN
    rw [← List.foldl_append, List.take_append_drop]
  rwa [e] at h
theorem note2_vis (w0 : World) (F : Nat → Prop) (ob pb kb q base first last : Nat) : VisC 48 #[.pointer (some ⟨pb, 0, none⟩), .pointer (some ⟨kb, 0, none⟩)] w0 F (NtQ base) (fun x : List Tr.Nt => x.length ≤ 1000000000) (Tr.stepN base) (NtK w0 ob pb kb q base first last) where
  run := fun _ _ => by kernel_rfl
  keep := fun x w h => ⟨h.1.2.2.size, fun y _ hl => h.1.2.2.block y hl⟩
  call := fun p v x w hQ hp hI hG => note2_walk hp hQ hI (Nat.le_trans (note_grow base p x) hG)
  sub := fun k a l h => h.sub
  back := fun p x h => Nat.le_trans (note_grow base p x) h

set_option maxHeartbeats 2000000 in
set_option maxRecDepth 100000 in
theorem ntclip_walk (A : Option Addr) (n c : Nat) (w : World) (h : n ≤ c) (hn : A = none → c = 0) :
    Calls Tryz.prog 49 #[.slice A n c] w fun e w' => e = .returned (.slice A n n) ∧ w = w' := by
  cases A with
  | none =>
    have := hn rfl
    subst this
    obtain rfl : n = 0 := by omega
    go_enter Tryz.func49, Tryz.ntmps49
    go_wp2
    go_ret
    exact ⟨rfl, rfl⟩
  | some a =>
    go_enter Tryz.func49, Tryz.ntmps49
    go_wp2
    go_ret
    exact ⟨rfl, rfl⟩

set_option maxHeartbeats 16000000 in
set_option maxRecDepth 100000 in
theorem tnotes_walk {w : World} {F : Nat → Prop} {gt d : Nat} {A : Option Addr} {c : Nat} {T : List Tk} {ks : List Tr.Kd} {ts : List Tr.PT} (h : TreeIs w F gt d A c T ks ts) (hk : ks.length ≤ 100000000) (ht : ts.length ≤ 100000000) (hQk : ∀ k ∈ ks, NtQ k.base k.part) (hQt : ∀ p ∈ ts, NtQ 0 p) (hlen : (Tr.tailN ts (Tr.kidsN ks [])).length ≤ 1000000000) :
    Calls Tryz.prog 15 #[.pointer (some ⟨gt, 0, none⟩)] w fun e w' => ∃ A, e = .returned (.slice A (Tr.tailN ts (Tr.kidsN ks [])).length (Tr.tailN ts (Tr.kidsN ks [])).length) ∧ Rd w' w'.heap.size 3 A (Tr.tailN ts (Tr.kidsN ks [])).length (ntC (Tr.tailN ts (Tr.kidsN ks []))) ∧ Below w.heap.size w w' := by
  obtain ⟨Ak, ck, At, ct, vs, us, hB, hkc, htc, hrk, hks, hrt, hts⟩ := h.ex
  have hlk := Nat.le_trans (tailN_grow ts (Tr.kidsN ks [])) hlen
  have hd1 : Below w.heap.size w (w.alloc (.cells #[.slice none 0 0] 31)) := (Below.refl _ _).alloc (Nat.le_refl _) _
  have ho : Blk (w.alloc (.cells #[.slice none 0 0] 31)) w.heap.size 31 #[.slice none 0 0] := Blk.new _ _ _
  have hz1 : (w.alloc (.cells #[.slice none 0 0] 31)).heap.size = w.heap.size + 1 := by simp
  have hd2 : Below w.heap.size w ((w.alloc (.cells #[.slice none 0 0] 31)).alloc (.cells #[ntClo w.heap.size] 111)) := hd1.alloc hd1.size _
  have hP := Blk.new (w.alloc (.cells #[.slice none 0 0] 31)) 111 #[ntClo w.heap.size]
  rw [hz1] at hP
  have ho2 := ho.alloc (.cells #[ntClo w.heap.size] 111)
  have hI : NtI w w.heap.size [] ((w.alloc (.cells #[.slice none 0 0] 31)).alloc (.cells #[ntClo w.heap.size] 111)) := ⟨⟨none, 0, ho2, World.ownsRow_nil _ _ _ _⟩, Nat.le_refl _, hd2⟩
  obtain ⟨ob, hob⟩ : ∃ x, x = w.heap.size := ⟨_, rfl⟩
  obtain ⟨pb, hpb⟩ : ∃ x, x = ob + 1 := ⟨_, rfl⟩
  rw [← hob, ← hpb] at hP
  rw [← hob] at hI
  clear ho hd1 ho2 hz1 hd2
  unfold ntClo at hI hP
  have hsf := fun (b c : Array Value) a m w => store_func (.func 45) b c a m w
  go_enter Tryz.func15, Tryz.ntmps15
  go_upto_region 3 with fail
  rw [← hob, ← hpb]
  clear hpb hob hsf
  generalize (w.alloc (.cells #[.slice none 0 0] 31)).alloc (.cells #[.func (.func 45) #[] #[.pointer (some ⟨ob, 0, none⟩)]] 111) = w2 at *
  have hB2 := fun w' (hb : Below w.heap.size w w') => hB.below hb hB.lt
  have c2 := (hB2 w2 hI.2.2).cell 2
  simp at c2
  have Hk := Lib.hid hk
  have Ht := Lib.hid ht
  have Hlk := Lib.hid hlk
  have Hlen := Lib.hid hlen
  clear hk ht hlk hlen hkc htc
  go_wp2_with fail
  go_loopg [15] ks.length (fun m v wr => ∃ i : Nat, v = .int .i64 (i : Int) ∧ i ≤ ks.length ∧ ks.length - i ≤ m ∧ NtI w ob (Tr.kidsN (ks.take i) []) wr ∧ Blk wr pb 111 #[ntClo ob])
  case atStart => exact ⟨0, rfl, Nat.zero_le _, Nat.le_refl _, hI, hP⟩
  case round =>
    clear hI hP c2
    obtain ⟨i, rfl, hi, hm, hI, hP⟩ := hrel
    by_cases hlt : i < ks.length
    · have ii0 : (0 : Int) ≤ (i : Int) := by omega
      have ii1 : (i : Int) < (ks.length : Int) := by omega
      obtain ⟨qp, v0, v1, v2, v3, hpv⟩ := hks.at_ hlt
      obtain ⟨br, o, rfl, _, hbl, hc⟩ := hrk (by have := KdsF.len hks; omega)
      have e0 := hc _ _ v0
      have e1 := hc _ _ v1
      have e2 := hc _ _ v2
      have e3 := hc _ _ v3
      rw [← Nat.add_assoc] at e1 e2 e3
      have hbelow := hI.2.2
      have q0 := (hbelow.cell (p := ⟨br, o + i * 4, none⟩) hbl).trans e0
      have q1 := (hbelow.cell (p := ⟨br, o + i * 4 + 1, none⟩) hbl).trans e1
      have q2 := (hbelow.cell (p := ⟨br, o + i * 4 + 2, none⟩) hbl).trans e2
      have q3 := (hbelow.cell (p := ⟨br, o + i * 4 + 3, none⟩) hbl).trans e3
      have hQ := hQk ks[i] (List.getElem_mem hlt)
      have HT := Lib.hid (kidsN_take ks i hlt [])
      have Hle := Lib.hid (Nat.le_trans (kidsN_le ks (i + 1) []) Hlk.out)
      rw [HT.out] at Hle
      generalize ks[i].part = p at *
      generalize ks[i].base = kb0 at *
      generalize ks[i].first = kf at *
      generalize ks[i].last = kl at *
      generalize Tr.kidsN (ks.take i) [] = out at *
      have Hlt := Lib.hid hlt
      have Hm := Lib.hid hm
      clear v0 v1 v2 v3 hc e0 e1 e2 e3 hbl hbelow hlt hm hi
      have hd : Below wr.heap.size wr (wr.alloc (.cells #[.pointer (some ⟨qp, 0, none⟩), .int .i64 (kb0 : Int), .int .i64 (kf : Int), .int .i64 (kl : Int)] 92)) := (Below.refl _ _).alloc (Nat.le_refl _) _
      have hKb : Blk (wr.alloc (.cells #[.pointer (some ⟨qp, 0, none⟩), .int .i64 (kb0 : Int), .int .i64 (kf : Int), .int .i64 (kl : Int)] 92)) wr.heap.size 92 #[.pointer (some ⟨qp, 0, none⟩), .int .i64 (kb0 : Int), .int .i64 (kf : Int), .int .i64 (kl : Int)] := Blk.new _ _ _
      obtain ⟨⟨A1, c1, hN⟩, hob, hdd⟩ := hI
      have hN := hN.below hd
      have hP := hP.below hd hP.lt
      have hdd := hdd.trans (hd.mono hdd.size)
      obtain ⟨kb, hkb⟩ : ∃ kb, kb = wr.heap.size := ⟨_, rfl⟩
      rw [← hkb] at hKb
      go_upto_region 6 with fail
      rw [← hkb]
      clear hkb q0 q1 q2 q3 hd
      generalize (wr.alloc (.cells #[.pointer (some ⟨qp, 0, none⟩), .int .i64 (kb0 : Int), .int .i64 (kf : Int), .int .i64 (kl : Int)] 92)) = w3 at *
      have hK3 : NtK w ob pb kb qp kb0 kf kl out w3 := ⟨⟨⟨A1, c1, hN⟩, hob, hdd⟩, hP, hKb⟩
      have hcl := walk_all (note2_vis w F ob pb kb qp kb0 kf kl) p _ out w3 hQ hpv hK3 Hle.out
      have kq := hKb.cell 0
      simp at kq
      rw [← HT.out] at hcl
      clear hpv hK3 hN hdd hQ hP hKb
      have Hob := Lib.hid hob
      clear hob
      go_wp2_with fail
      refine hcl.mono ?_
      clear hcl kq
      rintro e w4 ⟨rfl, hI4, hP4, _⟩
      have c1 : IntKind.i64.wrap ((i : Int) + 1) = (i : Int) + 1 := IntWalk.i64_in _ (by have := Hlt.out; have := Hk.out; omega)
      go_wp2_with fail
      go_roundg (ks.length - (i + 1))
      case rel => exact ⟨i + 1, by go_num, by have := Hlt.out; omega, Nat.le_refl _, hI4, hP4⟩
      case measure => have := Hlt.out; have := Hm.out; omega
    · obtain rfl : i = ks.length := by omega
      have i1 : ¬ (ks.length : Int) < (ks.length : Int) := by omega
      have i2 : decide (ks.length < ks.length) = false := by simp
      rw [List.take_length] at hI
      have c3 := (hB2 wr hI.2.2).cell 3
      simp at c3
      generalize hkn : Tr.kidsN ks [] = kn at *
      have Hkn := Lib.hid hkn
      clear hkn
      clear hlt hi hm
      go_wp2_with fail
      go_loopg [30] ts.length (fun m v wr => ∃ j : Nat, v = .int .i64 (j : Int) ∧ j ≤ ts.length ∧ ts.length - j ≤ m ∧ NtI w ob (Tr.tailN (ts.take j) kn) wr ∧ Blk wr pb 111 #[ntClo ob])
      case atStart => exact ⟨0, rfl, Nat.zero_le _, Nat.le_refl _, hI, hP⟩
      case round =>
        clear hI hP c3
        obtain ⟨j, rfl, hj, hm, hI, hP⟩ := hrel
        by_cases hlt : j < ts.length
        · have ii0 : (0 : Int) ≤ (j : Int) := by omega
          have ii1 : (j : Int) < (ts.length : Int) := by omega
          obtain ⟨v, hv, hpv⟩ := hts.at_ hlt
          obtain ⟨br, o, rfl, hcell⟩ := hrt.at_ hv
          have hbl := World.block_lt_of_cell? w ⟨br, o + j, none⟩ hcell
          have q0 := (hI.2.2.cell (p := ⟨br, o + j, none⟩) hbl).trans hcell
          have HT := Lib.hid (tailN_take ts j hlt kn)
          have hle := Nat.le_trans (tailN_le ts j kn) Hlen.out
          have hcl := note_any hpv (hQt ts[j] (List.getElem_mem hlt)) hI hle
          unfold NoteE at hcl
          rw [← HT.out] at hcl
          clear HT
          obtain ⟨tp, qp, rfl⟩ := hpv.form
          have p0 := hP.cell 0
          simp [ntClo] at p0
          have Hlt := Lib.hid hlt
          have Hm := Lib.hid hm
          clear hpv hv hcell hbl hlt hm hj hle hI
          go_wp2_with fail
          refine hcl.mono ?_
          clear hcl q0 p0
          rintro e w4 ⟨rfl, hI4, hk4⟩
          have c1 : IntKind.i64.wrap ((j : Int) + 1) = (j : Int) + 1 := IntWalk.i64_in _ (by have := Hlt.out; have := Ht.out; omega)
          have hP4 := hP.keepN hk4 (by decide)
          go_wp2_with fail
          go_roundg (ts.length - (j + 1))
          case rel => exact ⟨j + 1, by go_num, by have := Hlt.out; omega, Nat.le_refl _, hI4, hP4⟩
          case measure => have := Hlt.out; have := Hm.out; omega
        · obtain rfl : j = ts.length := by omega
          have j1 : ¬ (ts.length : Int) < (ts.length : Int) := by omega
          have j2 : decide (ts.length < ts.length) = false := by simp
          rw [List.take_length] at hI
          generalize hres : Tr.tailN ts kn = res at *
          have Hres := Lib.hid hres
          clear hres
          obtain ⟨⟨Av, cv, hN⟩, hob, hdd⟩ := hI
          obtain ⟨Av', cv', he, hle, hnone⟩ := own_cap hN.own
          injection he with e1 _ e3
          subst e1 e3
          have hcp := ntclip_walk Av res.length cv wr hle hnone
          have n0 := hN.blk.cell 0
          simp at n0
          have hrd := Rd.of_own hN.own
          clear hlt hj hm hle hnone hN hP
          go_wp2_with fail
          refine hcp.mono ?_
          clear hcp n0
          rintro e w4 ⟨rfl, rfl⟩
          go_wp2_with fail
          go_ret
          rw [Hkn.out, Hres.out]
          exact ⟨Av, rfl, hrd, hdd⟩
end Go.Proofs.YtalklmeejdmifaaGreatDoor
/-
  TREES, plainly: the tokens of a text stand side by side.
-/
namespace Go.Proofs.YtalklmeejdmifaaGreatDoor

/-- tokens from place a to place e -/
def Lx.Chain : Nat → Nat → List (Nat × Nat × Nat) → Prop
  | a, e, [] => a = e
  | a, e, t :: R => t.2.1 = a ∧ 1 ≤ t.2.2 ∧ 1 ≤ t.1 ∧ t.1 ≤ 8 ∧ Lx.Chain (a + t.2.2) e R
theorem Lx.chain_tok : ∀ (n a : Nat) (l : List UInt8), l.length ≤ n → Lx.Chain a (a + l.length) (Lx.tokR a l)
  | 0, a, l, h => by
    obtain rfl : l = [] := List.eq_nil_of_length_eq_zero (by omega)
    rw [Lx.tokR_nil]; rfl
  | n + 1, a, l, h => by
    by_cases hne : l = []
    · subst hne; rw [Lx.tokR_nil]; rfl
    · have h1 := Lx.one_le l hne
      rw [Lx.tokR_cons a hne]
      refine ⟨rfl, h1.1, h1.2.2.1, h1.2.2.2, ?_⟩
      have := Lx.chain_tok n (a + (Lx.oneM l).2) (l.drop (Lx.oneM l).2) (by rw [List.length_drop]; omega)
      rw [List.length_drop] at this
      dsimp only
      rwa [show a + (Lx.oneM l).2 + (l.length - (Lx.oneM l).2) = a + l.length by omega] at this
theorem Lx.chain_head {a e : Nat} {R : List (Nat × Nat × Nat)} (h : Lx.Chain a e R) : a = (R[0]?.map (·.2.1)).getD e := by
  cases R with
  | nil => exact h
  | cons t R => simp [h.1]
theorem Lx.chain_drop {e : Nat} : ∀ (i a : Nat) (R : List (Nat × Nat × Nat)), Lx.Chain a e R → Lx.Chain ((R[i]?.map (·.2.1)).getD e) e (R.drop i)
  | 0, a, R, h => by rw [List.drop_zero, ← Lx.chain_head h]; exact h
  | i + 1, a, [], h => by simp; rfl
  | i + 1, a, t :: R, h => by simpa using Lx.chain_drop i _ R h.2.2.2.2
theorem Lx.chain_le {e : Nat} : ∀ (a : Nat) (R : List (Nat × Nat × Nat)), Lx.Chain a e R → a ≤ e
  | a, [], h => by have : a = e := h; omega
  | a, t :: R, h => by have := Lx.chain_le _ R h.2.2.2.2; omega
theorem Lx.chain_side {s : List UInt8} {T : List (Nat × Nat × Nat)} (h : Lx.Chain 0 s.length T) (hT : T.length ≤ 400000000) : Tr.Side s T := by
  have habs : ∀ i, Lx.Chain (Tr.absP s T i) s.length (T.drop i) := fun i => Lx.chain_drop i 0 T h
  have hk : ∀ k (hk : k < T.length), T[k].2.1 = Tr.absP s T k ∧ 1 ≤ T[k].2.2 ∧ 1 ≤ T[k].1 ∧ T[k].1 ≤ 8 ∧ Lx.Chain (Tr.absP s T k + T[k].2.2) s.length (T.drop (k + 1)) := fun k hk => by
    have := habs k
    rw [List.drop_eq_getElem_cons hk] at this
    exact this
  have htile : ∀ k (h : k < T.length), T[k].2.1 + T[k].2.2 = Tr.absP s T (k + 1) := fun k hlt => by
    obtain ⟨h1, _, _, _, h5⟩ := hk k hlt
    rw [h1, Lx.chain_head h5]
    unfold Tr.absP
    rw [List.getElem?_drop, Nat.add_zero]
  refine ⟨⟨fun t ht => ?_, fun i j hij => ?_⟩, htile, ?_, hT⟩
  · obtain ⟨k, hlt, rfl⟩ := List.getElem_of_mem ht
    obtain ⟨h1, h2, h3, h4, h5⟩ := hk k hlt
    have := Lx.chain_le _ _ h5
    omega
  · induction j with
    | zero => obtain rfl : i = 0 := by omega
              exact Nat.le_refl _
    | succ j ih =>
      by_cases e : i = j + 1
      · subst e; exact Nat.le_refl _
      · have h1 := ih (by omega)
        by_cases hj : j < T.length
        · have h2 := htile j hj
          have h3 := (hk j hj).1
          omega
        · have h2 := Tr.abs_end s T j (by omega)
          have h3 := Tr.abs_end s T (j + 1) (by omega)
          omega
  · have := Lx.chain_head (habs 0)
    rw [List.drop_zero] at this
    have h0 := Lx.chain_head h
    omega
/-- no sign is a word, and no word a question mark -/
def Plainly (s : List UInt8) (T : List (Nat × Nat × Nat)) : Prop := ∀ t ∈ T, (t.1 = 7 → Tr.subT s t ≠ Tr.sTrue ∧ Tr.subT s t ≠ Tr.sFalse) ∧ (t.1 = 4 → Tr.subT s t ≠ [63])
theorem Lx.sign_le (l : List UInt8) : Lx.signM l ≤ 2 := by
  unfold Lx.signM
  split
  · omega
  · split
    · omega
    · split <;> omega
theorem Lx.one_plain (l : List UInt8) : ((Lx.oneM l).1 = 7 → (Lx.oneM l).2 ≤ 2) ∧ ((Lx.oneM l).1 = 4 → l.take (Lx.oneM l).2 ∈ Lx.words) := by
  unfold Lx.oneM
  split
  · exact ⟨by simp, by simp⟩
  split
  · exact ⟨by simp, by simp⟩
  split
  · split <;> exact ⟨by simp, by simp⟩
  split
  · refine ⟨?_, ?_⟩
    · dsimp only; split <;> intro h <;> omega
    · dsimp only
      split
      · rename_i h
        intro _
        unfold Lx.wordM at h
        simpa using h
      · intro h; omega
  split
  · refine ⟨?_, ?_⟩ <;> (dsimp only; split <;> intro h <;> omega)
  split
  · refine ⟨?_, ?_⟩ <;> (dsimp only; split <;> intro h <;> omega)
  split
  · exact ⟨fun _ => Lx.sign_le l, by simp⟩
  · exact ⟨by simp, by simp⟩
theorem Lx.plainly : ∀ (n a : Nat) (s : List UInt8), s.length - a ≤ n → Plainly s (Lx.tokR a (s.drop a))
  | 0, a, s, h => by
    have e : s.drop a = [] := List.drop_eq_nil_of_le (by omega)
    rw [e, Lx.tokR_nil]
    intro t ht; simp at ht
  | n + 1, a, s, h => by
    by_cases hne : s.drop a = []
    · rw [hne, Lx.tokR_nil]
      intro t ht; simp at ht
    · have h1 := Lx.one_le _ hne
      rw [Lx.tokR_cons a hne, List.drop_drop]
      rw [List.length_drop] at h1
      have ih := Lx.plainly n (a + (Lx.oneM (s.drop a)).2) s (by omega)
      intro t ht
      rcases List.mem_cons.1 ht with rfl | ht
      · obtain ⟨p7, p4⟩ := Lx.one_plain (s.drop a)
        unfold Tr.subT
        dsimp only
        refine ⟨fun h7 => ?_, fun h4 e => ?_⟩
        · have hl : ((s.drop a).take (Lx.oneM (s.drop a)).2).length ≤ 2 := by
            rw [List.length_take]
            have := p7 h7
            omega
          refine ⟨fun e => ?_, fun e => ?_⟩ <;> (rw [e] at hl; simp [Tr.sTrue, Tr.sFalse] at hl)
        · have := p4 h4
          rw [e] at this
          revert this
          decide
      · exact ih t ht
theorem Lx.tok_side (s : List UInt8) (hs : s.length ≤ 400000000) (hT : (Lx.tokR 0 s).length ≤ s.length) : Tr.Side s (Lx.tokR 0 s) ∧ Plainly s (Lx.tokR 0 s) := by
  have h1 := Lx.chain_tok s.length 0 s (Nat.le_refl _)
  rw [Nat.zero_add] at h1
  have h2 := Lx.plainly s.length 0 s (by omega)
  rw [List.drop_zero] at h2
  exact ⟨Lx.chain_side h1 (by omega), h2⟩
end Go.Proofs.YtalklmeejdmifaaGreatDoor
/-
  THE WALK of the law LexTiles.
-/
namespace Go.Proofs.YtalklmeejdmifaaGreatDoor
open Go.RowKit

theorem Rd.tk {w : World} {B : Nat} {A : Option Addr} {l : List Tk} {k : Nat} (h : Rd w B 3 A l.length (tksC l)) (hk : k < l.length) :
    ∃ b o, A = some ⟨b, o, none⟩ ∧ b < B ∧ w.cell? ⟨b, o + k * 3, none⟩ = some (.int .i64 l[k].1) ∧ w.cell? ⟨b, o + k * 3 + 1, none⟩ = some (.int .i64 l[k].2.1) ∧ w.cell? ⟨b, o + k * 3 + 2, none⟩ = some (.int .i64 l[k].2.2) := by
  obtain ⟨b, o, e, hb, hc⟩ := h.2 (by omega)
  refine ⟨b, o, e, hb, ?_, ?_, ?_⟩
  · have := hc (k * 3 + 0) _ (tksC_get l k 0 (by omega) hk); simpa [Nat.add_assoc] using this
  · have := hc (k * 3 + 1) _ (tksC_get l k 1 (by omega) hk); simpa [Nat.add_assoc] using this
  · have := hc (k * 3 + 2) _ (tksC_get l k 2 (by omega) hk); simpa [Nat.add_assoc] using this

theorem Lx.tokR_len : ∀ (n a : Nat) (l : List UInt8), l.length ≤ n → (Lx.tokR a l).length ≤ l.length
  | 0, a, l, h => by
    obtain rfl : l = [] := List.eq_nil_of_length_eq_zero (by omega)
    rw [Lx.tokR_nil]; exact Nat.le_refl _
  | n + 1, a, l, h => by
    by_cases hne : l = []
    · subst hne; rw [Lx.tokR_nil]; exact Nat.le_refl _
    · have h1 := Lx.one_le l hne
      rw [Lx.tokR_cons a hne, List.length_cons]
      have := Lx.tokR_len n (a + (Lx.oneM l).2) (l.drop (Lx.oneM l).2) (by rw [List.length_drop]; omega)
      rw [List.length_drop] at this
      omega

end Go.Proofs.YtalklmeejdmifaaGreatDoor
