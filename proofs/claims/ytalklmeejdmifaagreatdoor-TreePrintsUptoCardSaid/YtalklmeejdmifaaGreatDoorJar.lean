/-
  JOINED of the texts UP YP UM
-/
import Derived.Test.YtalklmeejdmifaaGreatDoorJaq
import Derived.StillTailTactics
import Derived.Handy
import Derived.Deep.RegionHeld3
import Derived.Maps.OwnOps
import Derived.Carry
import Derived.Deep.CutBlock
import Derived.Deep.AppendLies
import Derived.Deep.QuietTactic
import Derived.BigQuiet
import Derived.Lib.RuneBytes
import Derived.Lib.Strings
import Derived.Deep.DeepCutAuto
import Derived.Lib.ConvBytes
import Derived.Laws.Strings3
import Derived.Laws.Closers25
import Derived.Laws.Closers25b
import Derived.BigCall
import Derived.BigGuard
import Derived.Test.YtalklmeejdmifaaGreatDoorShelfX
import Derived.Shelf.Spec.BytesIndexFunc
import Derived.Lib.IndexMore
import Derived.Test.YtalklmeejdmifaaGreatDoorRows
import Derived.WalkKit
import Derived.WalkSpells
import Derived.WalkLawsBesides
import Derived.Below
import Derived.Laws.OwnMore
import Derived.Deep.Draws
import Derived.Lib.Hide
import Derived.IntWalk
import Derived.Test.YtalklmeejdmifaaGreatDoorShelfW
import Derived.Shelf.Strings.SlTrimAscii
import Derived.Lib.LaidTab
import Derived.Lib.AtoiAll
import Derived.Lib.IndexLaws
import Derived.Lib.SlTrimSet
import Derived.Lib.ItoaNum
import Derived.Lib.Atoi
import Derived.WalkMore
import Derived.ScopeJumps
import Derived.Laws.AppendOwnNone
import Derived.Test.YtalklmeejdmifaaGreatDoorShelf
import Derived.Shelf.Strings.Builder1
/-
  WALKS of package tree: Print.
-/
namespace Go.Proofs.YtalklmeejdmifaaGreatDoor
open Go.RowKit

/-- the closure that prints, as a value -/
def prClo (b pb : Nat) : Value := .func (.func 41) #[] #[.pointer (some ⟨b, 0, none⟩), .pointer (some ⟨pb, 0, none⟩)]
/-- what printing a part does: its text is written into the builder -/
def PrC (p : Tr.PT) : Prop := ∀ (w : World) (B b pb : Nat) (x : Bs) (F : Nat → Prop) (k tok : Nat) (t : Bs) (A : Option Addr) (n : Nat), IsB B b x w → Blk w pb 100 #[prClo b pb] → (∀ y, F y → y < B) → B ≤ w.heap.size →
  NdF w F p [.int .i64 (k : Int), .int .i64 (tok : Int), .string ⟨t.toArray⟩, .slice A n n] → x.length + (Tr.textOf p).length ≤ 100000000 →
  Calls Tryz.prog 41 #[.agg #[.int .i64 (k : Int), .int .i64 (tok : Int), .string ⟨t.toArray⟩, .slice A n n], .pointer (some ⟨b, 0, none⟩), .pointer (some ⟨pb, 0, none⟩)] w fun e w' => e = .returned (.tuple #[]) ∧ IsB B b (x ++ Tr.textOf p) w' ∧ Below B w w' ∧ KeepX [99, 5] w w'
theorem Blk.keepX {w w' : World} {q : Nat} {t : TypeId} {cs : Array Value} {T : List TypeId} (h : Blk w q t cs) (hk : KeepX T w w') (ht : t ∉ T) : Blk w' q t cs := hk q _ h fun u hu e => ht (by injection e with e; rw [e]; exact hu)
theorem texts_take (l : List Tr.PT) (i : Nat) (h : i < l.length) : Tr.textsOf (l.take (i + 1)) = Tr.textsOf (l.take i) ++ Tr.textOf l[i] := by
  rw [List.take_succ_eq_append_getElem h, Tr.texts_app]
  simp only [Tr.textsOf, List.append_nil]
theorem texts_le : ∀ (l : List Tr.PT) (i : Nat), (Tr.textsOf (l.take i)).length ≤ (Tr.textsOf l).length
  | [], i => by simp
  | p :: l, 0 => by simp [Tr.textsOf]
  | p :: l, i + 1 => by
    have := texts_le l i
    simp only [List.take_succ_cons, Tr.textsOf, List.length_append]
    omega
set_option maxHeartbeats 16000000 in
set_option maxRecDepth 100000 in
theorem print_core {w : World} {B b pb k tok : Nat} {x t : Bs} {A : Option Addr} {l : List Tr.PT} {vs : List Value} {F : Nat → Prop} (h : IsB B b x w) (hpb : Blk w pb 100 #[prClo b pb]) (hF : ∀ y, F y → y < B) (hBw : B ≤ w.heap.size)
    (hr : RowF w F A vs) (hn : NdsF w F l vs) (hl : l.length ≤ 1000000000) (hlen : x.length + (if k = 0 then t else []).length + (Tr.textsOf l).length ≤ 100000000) (IH : ∀ p ∈ l, PrC p) :
    Calls Tryz.prog 41 #[.agg #[.int .i64 (k : Int), .int .i64 (tok : Int), .string ⟨t.toArray⟩, .slice A l.length l.length], .pointer (some ⟨b, 0, none⟩), .pointer (some ⟨pb, 0, none⟩)] w fun e w' => e = .returned (.tuple #[]) ∧ IsB B b (x ++ ((if k = 0 then t else []) ++ Tr.textsOf l)) w' ∧ Below B w w' ∧ KeepX [99, 5] w w' := by
  have hd : Below w.heap.size w (w.alloc (.cells #[.int .i64 (k : Int), .int .i64 (tok : Int), .string ⟨t.toArray⟩, .slice A l.length l.length] 26)) := (Below.refl _ _).alloc (Nat.le_refl _) _
  have hb : Blk (w.alloc (.cells #[.int .i64 (k : Int), .int .i64 (tok : Int), .string ⟨t.toArray⟩, .slice A l.length l.length] 26)) w.heap.size 26 #[.int .i64 (k : Int), .int .i64 (tok : Int), .string ⟨t.toArray⟩, .slice A l.length l.length] := Blk.new _ _ _
  have hB1 : Below B w (w.alloc (.cells #[.int .i64 (k : Int), .int .i64 (tok : Int), .string ⟨t.toArray⟩, .slice A l.length l.length] 26)) := hd.mono hBw
  have hx1 := (KeepX.refl [99, 5] w).alloc (.cells #[.int .i64 (k : Int), .int .i64 (tok : Int), .string ⟨t.toArray⟩, .slice A l.length l.length] 26)
  have h1 := h.alloc (.cells #[.int .i64 (k : Int), .int .i64 (tok : Int), .string ⟨t.toArray⟩, .slice A l.length l.length] 26)
  have hpb1 := hpb.alloc (.cells #[.int .i64 (k : Int), .int .i64 (tok : Int), .string ⟨t.toArray⟩, .slice A l.length l.length] 26)
  obtain ⟨bx, hbx⟩ : ∃ y, y = w.heap.size := ⟨_, rfl⟩
  rw [← hbx] at hb
  obtain ⟨tx, htx⟩ : ∃ tx, tx = (if k = 0 then t else []) := ⟨_, rfl⟩
  rw [← htx] at hlen ⊢
  have Ht0 : Hid (k = 0 → tx = t) := fun e => by rw [htx, if_pos e]
  have Ht1 : Hid (¬ k = 0 → tx = []) := fun e => by rw [htx, if_neg e]
  clear htx
  go_enter Tryz.func41, Tryz.ntmps41
  go_upto_region 1 with fail
  rw [← hbx]
  clear hbx
  generalize w.alloc (.cells #[.int .i64 (k : Int), .int .i64 (tok : Int), .string ⟨t.toArray⟩, .slice A l.length l.length] 26) = w1 at *
  have b0 := hb.cell 0
  have b2 := hb.cell 2
  simp at b0 b2
  go_upto_if 8 with fail
  go_cut [8] (fun _ wc => IsB B b (x ++ tx) wc ∧ Below B w wc ∧ KeepX [99, 5] w wc ∧ Blk wc bx 26 #[.int .i64 (k : Int), .int .i64 (tok : Int), .string ⟨t.toArray⟩, .slice A l.length l.length] ∧ Blk wc pb 100 #[prClo b pb])
  case first =>
    have hBw1 : B ≤ w1.heap.size := Nat.le_trans hBw hB1.size
    by_cases k0 : k = 0
    · have htx := Lib.hid (Ht0.out k0)
      have hw := writeStr_walk h1 t (by have h := htx.out; rw [h] at hlen; omega) hBw1
      clear Ht0 Ht1 hlen
      subst k0
      go_wp2_with fail
      refine hw.mono ?_
      clear hw
      rintro e w2 ⟨rfl, h2, hb2, hk2⟩
      go_wp2_with fail
      go_meet
      exact ⟨by rw [htx.out]; exact h2, hB1.trans hb2, hx1.trans hk2, hb.keepX hk2 (by decide), hpb1.keepX hk2 (by decide)⟩
    · have htx := Lib.hid (Ht1.out k0)
      have e0 : ((k : Int) == 0) = false := by simp; omega
      clear Ht0 Ht1 hlen k0
      go_wp2_with fail
      go_meet
      exact ⟨by rw [htx.out, List.append_nil]; exact h1, hB1, hx1, hb, hpb1⟩
  case rest =>
  clear h1 hpb1 hb b0 b2 hB1 hx1 Ht0 Ht1 hd h hpb
  obtain ⟨h2, hB2, hx2, hb2, hpb2⟩ := hcut
  have c3 := hb2.cell 3
  simp at c3
  have Hl := Lib.hid hl
  have Hlen := Lib.hid hlen
  clear hl hlen hb2
  go_wp2_with fail
  go_loopg [15] l.length (fun m v wr => ∃ i : Nat, v = .int .i64 (i : Int) ∧ i ≤ l.length ∧ l.length - i ≤ m ∧ IsB B b (x ++ tx ++ Tr.textsOf (l.take i)) wr ∧ Below B w wr ∧ KeepX [99, 5] w wr ∧ Blk wr pb 100 #[prClo b pb])
  case atStart => exact ⟨0, rfl, Nat.zero_le _, Nat.le_refl _, by simpa [Tr.textsOf] using h2, hB2, hx2, hpb2⟩
  case round =>
    clear h2 hB2 hx2 hpb2 c3
    obtain ⟨i, rfl, hi, hm, hs, hB, hx, hpb⟩ := hrel
    have hBw2 : B ≤ wr.heap.size := Nat.le_trans hBw hB.size
    by_cases hlt : i < l.length
    · have ii0 : (0 : Int) ≤ (i : Int) := by omega
      have ii1 : (i : Int) < (l.length : Int) := by omega
      obtain ⟨ka, kb, kt, kA, kn, v0, v1, v2, v3, hnd⟩ := hn.at_ hlt
      obtain ⟨ba, oa, rfl, hFb, hba, hca⟩ := hr (by have := hn.len; omega)
      have hbB := hF _ hFb
      have e0 := hca _ _ v0
      have e1 := hca _ _ v1
      have e2 := hca _ _ v2
      have e3 := hca _ _ v3
      rw [← Nat.add_assoc] at e1 e2 e3
      have q0 := (hB.cell (p := ⟨ba, oa + i * 4, none⟩) hbB).trans e0
      have q1 := (hB.cell (p := ⟨ba, oa + i * 4 + 1, none⟩) hbB).trans e1
      have q2 := (hB.cell (p := ⟨ba, oa + i * 4 + 2, none⟩) hbB).trans e2
      have q3 := (hB.cell (p := ⟨ba, oa + i * 4 + 3, none⟩) hbB).trans e3
      have HT := Lib.hid (texts_take l i hlt)
      have hle := texts_le l (i + 1)
      rw [HT.out, List.length_append] at hle
      have hpr := IH l[i] (List.getElem_mem hlt)
      have hnd2 := NdF.keep (w' := wr) (F' := F) (Nat.le_trans (Nat.le_refl _) hB.size) (fun y hy _ => ⟨hB.block y (hF y hy), hy⟩) _ _ hnd
      have Hsz : Hid ((x ++ tx ++ Tr.textsOf (l.take i)).length + (Tr.textOf l[i]).length ≤ 100000000) := by show _ ≤ _; have := Hlen.out; simp only [List.length_append]; omega
      have HY : Hid (x ++ tx ++ Tr.textsOf (l.take (i + 1)) = (x ++ tx ++ Tr.textsOf (l.take i)) ++ Tr.textOf l[i]) := by show _ = _; rw [HT.out, List.append_assoc (x ++ tx)]
      clear HT
      generalize l[i] = p at *
      have Hlt := Lib.hid hlt
      have Hm := Lib.hid hm
      clear v0 v1 v2 v3 hnd hca e0 e1 e2 e3 hlt hm hi hle
      generalize x ++ tx ++ Tr.textsOf (l.take i) = y at *
      have hda : Below wr.heap.size wr (wr.alloc (.cells #[.int .i64 (ka : Int), .int .i64 (kb : Int), .string ⟨kt.toArray⟩, .slice kA kn kn] 26)) := (Below.refl _ _).alloc (Nat.le_refl _) _
      have hbk : Blk (wr.alloc (.cells #[.int .i64 (ka : Int), .int .i64 (kb : Int), .string ⟨kt.toArray⟩, .slice kA kn kn] 26)) wr.heap.size 26 #[.int .i64 (ka : Int), .int .i64 (kb : Int), .string ⟨kt.toArray⟩, .slice kA kn kn] := Blk.new _ _ _
      have hs := hs.alloc (.cells #[.int .i64 (ka : Int), .int .i64 (kb : Int), .string ⟨kt.toArray⟩, .slice kA kn kn] 26)
      have hpb := hpb.alloc (.cells #[.int .i64 (ka : Int), .int .i64 (kb : Int), .string ⟨kt.toArray⟩, .slice kA kn kn] 26)
      have hx := hx.alloc (.cells #[.int .i64 (ka : Int), .int .i64 (kb : Int), .string ⟨kt.toArray⟩, .slice kA kn kn] 26)
      have hB := hB.trans (hda.mono hBw2)
      have hnd2 := NdF.keep (F' := F) hda.size (fun y hy hl => ⟨hda.block y hl, hy⟩) _ _ hnd2
      have hBw3 : B ≤ (wr.alloc (.cells #[.int .i64 (ka : Int), .int .i64 (kb : Int), .string ⟨kt.toArray⟩, .slice kA kn kn] 26)).heap.size := Nat.le_trans hBw2 hda.size
      obtain ⟨bk, hbk0⟩ : ∃ z, z = wr.heap.size := ⟨_, rfl⟩
      rw [← hbk0] at hbk
      go_upto_region 6 with fail
      rw [← hbk0]
      clear hbk0 q0 q1 q2 q3 hda
      generalize wr.alloc (.cells #[.int .i64 (ka : Int), .int .i64 (kb : Int), .string ⟨kt.toArray⟩, .slice kA kn kn] 26) = w3 at *
      have k0 := hbk.cell 0
      have k1 := hbk.cell 1
      have k2 := hbk.cell 2
      have k3 := hbk.cell 3
      have p0 := hpb.cell 0
      simp at k0 k1 k2 k3 p0
      unfold prClo at p0
      have hcl := hpr w3 B b pb y F ka kb kt kA kn hs hpb hF hBw3 hnd2 Hsz.out
      clear hs hnd2 hpr
      go_wp2_with fail
      refine hcl.mono ?_
      clear hcl k0 k1 k2 k3 p0
      rintro e w4 ⟨rfl, h4, hb4, hk4⟩
      have c1 : IntKind.i64.wrap ((i : Int) + 1) = (i : Int) + 1 := IntWalk.i64_in _ (by have := Hlt.out; have := Hl.out; omega)
      have hpb4 := hpb.keepX hk4 (by decide)
      go_wp2_with fail
      go_roundg (l.length - (i + 1))
      case rel => exact ⟨i + 1, by go_num, by have := Hlt.out; omega, Nat.le_refl _, by rw [HY.out]; exact h4, hB.trans hb4, hx.trans hk4, hpb4⟩
      case measure => have := Hlt.out; have := Hm.out; omega
    · obtain rfl : i = l.length := by omega
      have i1 : ¬ (l.length : Int) < (l.length : Int) := by omega
      have i2 : decide (l.length < l.length) = false := by simp
      rw [List.take_length] at hs
      clear hlt hi hm hpb
      go_wp2_with fail
      go_end0
      exact ⟨rfl, by rw [← List.append_assoc]; exact hs, hB, hx⟩
mutual
theorem print_all : ∀ p : Tr.PT, Tr.wfP p → PrC p
  | .leaf tk tt a, _ => fun w B b pb x F k tok t A n h hpb hF hBw hnd hlen => by
    unfold NdF at hnd
    simp only [List.cons.injEq, Value.int.injEq, Value.slice.injEq, true_and, and_true] at hnd
    obtain ⟨hk, htk, ht, hA, hn, _⟩ := hnd
    obtain rfl : k = 0 := by omega
    subst hA hn
    have ht' : t = tt := by simpa using ht
    subst ht'
    unfold Tr.textOf at hlen ⊢
    have := print_core (k := 0) (tok := tok) (x := x) (t := t) (A := none) (l := []) (vs := []) (F := F) h hpb hF hBw (fun h => absurd h (by simp)) rfl (by simp) (by simpa [Tr.textsOf] using hlen) (by simp)
    simpa [Tr.textsOf] using this
  | .gap gt a d, _ => fun w B b pb x F k tok t A n h hpb hF hBw hnd hlen => by
    unfold NdF at hnd
    simp only [List.cons.injEq, Value.int.injEq, Value.slice.injEq, true_and, and_true] at hnd
    obtain ⟨hk, htk, ht, hA, hn, _⟩ := hnd
    obtain rfl : k = 1 := by omega
    subst hA hn
    unfold Tr.textOf at hlen ⊢
    have := print_core (k := 1) (tok := tok) (x := x) (t := t) (A := none) (l := []) (vs := []) (F := F) h hpb hF hBw (fun h => absurd h (by simp)) rfl (by simp) (by simpa [Tr.textsOf] using hlen) (by simp)
    simpa [Tr.textsOf] using this
  | .branch bk a l, hw => fun w B b pb x F k tok t A n h hpb hF hBw hnd hlen => by
    unfold Tr.wfP at hw
    unfold NdF at hnd
    obtain ⟨A', vs, e, hr, hn⟩ := hnd
    simp only [List.cons.injEq, Value.int.injEq, Value.slice.injEq, true_and, and_true] at e
    obtain ⟨hk, htk, ht, hA, hnn, _⟩ := e
    obtain rfl : k = bk := by omega
    subst hA hnn
    unfold Tr.textOf at hlen ⊢
    have k0 : ¬ k = 0 := by omega
    have := print_core (k := k) (tok := tok) (x := x) (t := t) (F := F) h hpb hF hBw hr hn hw.2.1 (by rw [if_neg k0]; simpa using hlen) (prints_all l hw.2.2)
    rw [if_neg k0, List.nil_append] at this
    exact this
theorem prints_all : ∀ l : List Tr.PT, Tr.wfsP l → ∀ p ∈ l, PrC p
  | [], _, p, hp => absurd hp (by simp)
  | q :: l, hw, p, hp => by
    unfold Tr.wfsP at hw
    rcases List.mem_cons.1 hp with he | hp
    · rw [he]; exact print_all q hw.1
    · exact prints_all l hw.2 p hp
end
end Go.Proofs.YtalklmeejdmifaaGreatDoor
/-
  THE WALK of the law TreePrints.
-/
namespace Go.Proofs.YtalklmeejdmifaaGreatDoor
open Go.RowKit

theorem store_func (f : Go.Fn) (b c : Array Value) (a : Addr) (m : Mode) (w : World) : (store a (.func f b c) m).run Tryz.prog w = stored Tryz.prog w a (.func f b c) m := run_store Tryz.prog w a _ m rfl

set_option maxHeartbeats 4000000 in
set_option maxRecDepth 100000 in
theorem print_walk {w : World} {F : Nat → Prop} {p : Tr.PT} {k tok : Nat} {t : Bs} {A : Option Addr} {n : Nat} (hw : Tr.wfP p) (hn : NdF w F p [.int .i64 (k : Int), .int .i64 (tok : Int), .string ⟨t.toArray⟩, .slice A n n]) (hlen : (Tr.textOf p).length ≤ 100000000) :
    Calls Tryz.prog 13 #[.agg #[.int .i64 (k : Int), .int .i64 (tok : Int), .string ⟨t.toArray⟩, .slice A n n]] w fun e w' => e = .returned (.string ⟨(Tr.textOf p).toArray⟩) ∧ Below w.heap.size w w' := by
  have hd1 : Below w.heap.size w (w.alloc (.cells #[.int .i64 (k : Int), .int .i64 (tok : Int), .string ⟨t.toArray⟩, .slice A n n] 26)) := (Below.refl _ _).alloc (Nat.le_refl _) _
  have hk1 : Blk (w.alloc (.cells #[.int .i64 (k : Int), .int .i64 (tok : Int), .string ⟨t.toArray⟩, .slice A n n] 26)) w.heap.size 26 #[.int .i64 (k : Int), .int .i64 (tok : Int), .string ⟨t.toArray⟩, .slice A n n] := Blk.new _ _ _
  have hn1 := NdF.keep (F' := fun x => x < w.heap.size) hd1.size (fun x _ hl => ⟨hd1.block x hl, hl⟩) _ _ hn
  obtain ⟨bn, hbn⟩ : ∃ x, x = w.heap.size := ⟨_, rfl⟩
  have Hbn := Lib.hid hbn
  rw [← hbn] at hk1
  clear hn
  have hpr := print_all p hw
  go_enter Tryz.func13, Tryz.ntmps13
  go_upto_region 1 with fail
  rw [← hbn]
  clear hbn
  generalize w.alloc (.cells #[.int .i64 (k : Int), .int .i64 (tok : Int), .string ⟨t.toArray⟩, .slice A n n] 26) = w1 at *
  have hs1 : w.heap.size ≤ w1.heap.size := hd1.size
  have hB := IsB.fresh w1
  have hk2 := hk1.alloc (.cells #[.pointer none, .slice none 0 0] 99)
  have hd2 : Below w1.heap.size w1 (w1.alloc (.cells #[.pointer none, .slice none 0 0] 99)) := (Below.refl _ _).alloc (Nat.le_refl _) _
  have hz2 : (w1.alloc (.cells #[.pointer none, .slice none 0 0] 99)).heap.size = w1.heap.size + 1 := by simp
  have hP3 := Blk.new (w1.alloc (.cells #[.pointer none, .slice none 0 0] 99)) 100 #[.nilFunc]
  have hB3 := hB.alloc (.cells #[.nilFunc] 100)
  have hk3 := hk2.alloc (.cells #[.nilFunc] 100)
  have hd3 : Below w1.heap.size w1 ((w1.alloc (.cells #[.pointer none, .slice none 0 0] 99)).alloc (.cells #[.nilFunc] 100)) := hd2.alloc hd2.size _
  have hz3 : ((w1.alloc (.cells #[.pointer none, .slice none 0 0] 99)).alloc (.cells #[.nilFunc] 100)).heap.size = w1.heap.size + 2 := by simp
  have hkeep : ∀ (v : Value) (y : Nat), y < w1.heap.size + 1 → (((w1.alloc (.cells #[.pointer none, .slice none 0 0] 99)).alloc (.cells #[.nilFunc] 100)).setCell ⟨w1.heap.size + 1, 0, none⟩ v).heap[y]? = (w1.alloc (.cells #[.pointer none, .slice none 0 0] 99)).heap[y]? := fun v y hy =>
    (Below.heap_setCell _ ⟨w1.heap.size + 1, 0, none⟩ v y (by show y ≠ w1.heap.size + 1; omega)).trans (Below.heap_alloc _ _ y (by rw [hz2]; exact hy))
  rw [hz2] at hP3
  have hB4 := hB.keep (w' := ((w1.alloc (.cells #[.pointer none, .slice none 0 0] 99)).alloc (.cells #[.nilFunc] 100)).setCell ⟨w1.heap.size + 1, 0, none⟩ (prClo w1.heap.size (w1.heap.size + 1))) fun y hy _ => hkeep _ y (by rw [hz2] at hy; exact hy)
  have hk4 : Blk (((w1.alloc (.cells #[.pointer none, .slice none 0 0] 99)).alloc (.cells #[.nilFunc] 100)).setCell ⟨w1.heap.size + 1, 0, none⟩ (prClo w1.heap.size (w1.heap.size + 1))) bn 26 #[.int .i64 (k : Int), .int .i64 (tok : Int), .string ⟨t.toArray⟩, .slice A n n] := (hkeep _ bn (by have := hk1.lt; omega)).trans hk2
  have hP4 := hP3.set_ 0 (prClo w1.heap.size (w1.heap.size + 1))
  simp at hP4
  have hd4 := hd3.setCell (p := ⟨w1.heap.size + 1, 0, none⟩) (by show w1.heap.size ≤ w1.heap.size + 1; omega) (prClo w1.heap.size (w1.heap.size + 1))
  have c0 : ((w1.alloc (.cells #[.pointer none, .slice none 0 0] 99)).alloc (.cells #[.nilFunc] 100)).cell? ⟨w1.heap.size + 1, 0, none⟩ = some .nilFunc := hP3.cell 0
  have f0 := hP3.frozen 0
  have hn4 := NdF.keep (F' := fun x => x < w.heap.size) hd4.size (fun x hx hl => ⟨hd4.block x hl, hx⟩) _ _ hn1
  clear hP3 hB3 hk3 hkeep hB hk2 hd2 hz2 hd3 hz3 hk1 hn1
  have hs4 := hd4.size
  obtain ⟨b, hb⟩ : ∃ b, b = w1.heap.size := ⟨_, rfl⟩
  obtain ⟨pb, hpb⟩ : ∃ q, q = b + 1 := ⟨_, rfl⟩
  have Hb := Lib.hid hb
  go_upto_region 3 with fail
  rw [← hb, ← hpb] at hB4 hk4 hP4 hd4 c0 f0 hn4 hs4 ⊢
  clear hpb hb
  unfold prClo at *
  generalize ((w1.alloc (.cells #[.pointer none, .slice none 0 0] 99)).alloc (.cells #[.nilFunc] 100)) = w3 at *
  have hsf := fun a m w => store_func (.func 41) #[] #[.pointer (some ⟨b, 0, none⟩), .pointer (some ⟨pb, 0, none⟩)] a m w
  go_upto_region 4 with fail
  clear c0 f0 hsf
  generalize w3.setCell ⟨pb, 0, none⟩ (.func (.func 41) #[] #[.pointer (some ⟨b, 0, none⟩), .pointer (some ⟨pb, 0, none⟩)]) = w4 at *
  have hcl := hpr w4 b b pb [] _ k tok t A n hB4 hP4 (fun y hy => by have hy : y < w.heap.size := hy; have := Hb.out; omega) (by have := Hb.out; omega) hn4 (by simpa using hlen)
  rw [List.nil_append] at hcl
  have q0 := hP4.cell 0
  have k0 := hk4.cell 0
  have k1 := hk4.cell 1
  have k2 := hk4.cell 2
  have k3 := hk4.cell 3
  simp at q0 k0 k1 k2 k3
  have Hs := Lib.hid hs4
  have Hs1 := Lib.hid hs1
  clear hs4 hs1 hpr hn4
  go_wp2_with fail
  refine hcl.mono ?_
  clear hcl q0 k0 k1 k2 k3
  rintro e w5 ⟨rfl, h5, hb5, hx5⟩
  have hst := bString_walk h5 (by have := hb5.size; have := Hs.out; omega)
  go_wp2_with fail
  refine hst.mono ?_
  clear hst
  rintro e w6 ⟨rfl, hb6⟩
  go_wp2_with fail
  go_ret
  refine ⟨rfl, ?_⟩
  have e1 := Hb.out
  have e2 := Hs1.out
  exact hd1.trans (((hd4.trans hb5).trans hb6).mono (by omega))
end Go.Proofs.YtalklmeejdmifaaGreatDoor
/-
  WALKS of package tree: Root.
-/
namespace Go.Proofs.YtalklmeejdmifaaGreatDoor
open Go.RowKit

/-- a node in plain data that is being made: its box n, the result's box r, what it has -/
structure NdMid (w : World) (r n k : Nat) (dn : List Tr.PT) (Av : Option Addr) (cv : Nat) (cells : List Value) (wr : World) : Prop where
  box : Blk wr n 26 #[.int .i64 (k : Int), .int .i64 0, .string ⟨#[]⟩, .slice Av dn.length cv]
  rb : Blk wr r 26 #[.int .i64 0, .int .i64 0, .string ⟨#[]⟩, .slice none 0 0]
  own : wr.ownsRow w.heap.size 26 4 (.slice Av dn.length cv) dn.length cells
  kids : NdsF wr (fun x => w.heap.size ≤ x ∧ x ≠ r ∧ x ≠ n ∧ some x ≠ (Value.slice Av dn.length cv).ownBlock) dn cells
  bel : Below w.heap.size w wr
  nn : some n ≠ (Value.slice Av dn.length cv).ownBlock
  rr : some r ≠ (Value.slice Av dn.length cv).ownBlock
  rn : r ≠ n
  hn : w.heap.size ≤ n
  hr : w.heap.size ≤ r
section
variable {w wr w' w3 w5 : World} {r n k : Nat} {dn : List Tr.PT} {Av : Option Addr} {cv : Nat} {cells : List Value}
theorem NdMid.below (M : NdMid w r n k dn Av cv cells wr) (hd : Below wr.heap.size wr w') : NdMid w r n k dn Av cv cells w' :=
  ⟨M.box.below hd M.box.lt, M.rb.below hd M.rb.lt, own_of_block M.own fun y hy => hd.block y (M.own.lt y hy).2, NdsF.keep hd.size (fun y hF hl => ⟨hd.block y hl, hF⟩) _ _ M.kids, M.bel.trans (hd.mono M.bel.size), M.nn, M.rr, M.rn, M.hn, M.hr⟩
theorem NdMid.lts (M : NdMid w r n k dn Av cv cells wr) : r < wr.heap.size ∧ n < wr.heap.size ∧ ∀ y, (Value.slice Av dn.length cv).ownBlock = some y → y < wr.heap.size := ⟨M.rb.lt, M.box.lt, fun y hy => (M.own.lt y hy).2⟩
theorem NdMid.push {p : Tr.PT} {na nb : Nat} {nt : Bs} {nA : Option Addr} {nn gg cap : Nat} (M : NdMid w r n k dn Av cv cells wr)
    (hlt : r < w3.heap.size ∧ n < w3.heap.size ∧ ∀ y, (Value.slice Av dn.length cv).ownBlock = some y → y < w3.heap.size)
    (hnd : NdF wr (fun x => w3.heap.size ≤ x) p #[.int .i64 (na : Int), .int .i64 (nb : Int), .string ⟨nt.toArray⟩, .slice nA nn nn].toList)
    (hown : w5.ownsRow w.heap.size 26 4 (.slice (some ⟨gg, 0, none⟩) (dn.length + 1) cap) (dn.length + 1) (cells ++ #[.int .i64 (na : Int), .int .i64 (nb : Int), .string ⟨nt.toArray⟩, .slice nA nn nn].toList))
    (hgrow : (wr.alloc (.cells #[.int .i64 (na : Int), .int .i64 (nb : Int), .string ⟨nt.toArray⟩, .slice nA nn nn] 26)).grownBy w5 (Value.slice Av dn.length cv).ownBlock)
    (hat : (Value.slice Av dn.length cv).ownBlock = some gg ∨ gg = wr.heap.size + 1) :
    NdMid w r n k (dn ++ [p]) (some ⟨gg, 0, none⟩) cap (cells ++ #[.int .i64 (na : Int), .int .i64 (nb : Int), .string ⟨nt.toArray⟩, .slice nA nn nn].toList) (World.setCell w5 ⟨n, 3, none⟩ (.slice (some ⟨gg, 0, none⟩) (dn.length + 1) cap)) := by
  obtain ⟨hr3, hn3, ho3⟩ := hlt
  have hz5 := hgrow.size
  simp at hz5
  have hgn : ∀ y, y < wr.heap.size → some y ≠ (Value.slice Av dn.length cv).ownBlock → some y ≠ some gg := fun y hy hr e => by
    rcases hat with e' | e'
    · exact hr (e.trans e'.symm)
    · injection e with e; omega
  have hold : ∀ y, y < wr.heap.size → y ≠ n → some y ≠ (Value.slice Av dn.length cv).ownBlock → (World.setCell w5 ⟨n, 3, none⟩ (.slice (some ⟨gg, 0, none⟩) (dn.length + 1) cap)).heap[y]? = wr.heap[y]? := fun y hy hh hr =>
    ((Below.heap_setCell w5 ⟨n, 3, none⟩ _ y hh).trans (hgrow.block y (by simp; omega) hr)).trans (Below.heap_alloc wr _ y hy)
  have hn5 := (M.box.alloc (.cells #[.int .i64 (na : Int), .int .i64 (nb : Int), .string ⟨nt.toArray⟩, .slice nA nn nn] 26)).grown hgrow M.nn
  have hn6 := hn5.set_ 3 (.slice (some ⟨gg, 0, none⟩) (dn.length + 1) cap)
  have hr6 : Blk (World.setCell w5 ⟨n, 3, none⟩ (.slice (some ⟨gg, 0, none⟩) (dn.length + 1) cap)) r 26 #[.int .i64 0, .int .i64 0, .string ⟨#[]⟩, .slice none 0 0] := (hold r M.rb.lt M.rn M.rr).trans M.rb
  have hgg : n ≠ gg := fun e => hgn n M.box.lt M.nn (by rw [e])
  have hown6 : (World.setCell w5 ⟨n, 3, none⟩ (.slice (some ⟨gg, 0, none⟩) (dn.length + 1) cap)).ownsRow w.heap.size 26 4 (.slice (some ⟨gg, 0, none⟩) (dn.length + 1) cap) (dn.length + 1) (cells ++ #[.int .i64 (na : Int), .int .i64 (nb : Int), .string ⟨nt.toArray⟩, .slice nA nn nn].toList) := own_of_block hown fun y hy => Below.heap_setCell w5 ⟨n, 3, none⟩ _ y (by simp only [Value.ownBlock, Option.some.injEq] at hy; subst hy; exact Ne.symm hgg)
  have hsz6 : wr.heap.size ≤ (World.setCell w5 ⟨n, 3, none⟩ (.slice (some ⟨gg, 0, none⟩) (dn.length + 1) cap)).heap.size := by simp [World.setCell]; omega
  have hlen : (dn ++ [p]).length = dn.length + 1 := by simp
  have hbz := M.bel.size
  have hk6 : NdsF (World.setCell w5 ⟨n, 3, none⟩ (.slice (some ⟨gg, 0, none⟩) (dn.length + 1) cap)) (fun x => w.heap.size ≤ x ∧ x ≠ r ∧ x ≠ n ∧ some x ≠ (Value.slice (some ⟨gg, 0, none⟩) (dn.length + 1) cap).ownBlock) (dn ++ [p]) (cells ++ #[.int .i64 (na : Int), .int .i64 (nb : Int), .string ⟨nt.toArray⟩, .slice nA nn nn].toList) :=
    NdsF.snoc (NdsF.keep hsz6 (fun y hF hl => ⟨hold y hl hF.2.2.1 hF.2.2.2, hF.1, hF.2.1, hF.2.2.1, hgn y hl hF.2.2.2⟩) _ _ M.kids) (NdF.keep hsz6 (fun y hF hl => by
      have hF : w3.heap.size ≤ y := hF
      have h1 : y ≠ n := by omega
      have h2 : some y ≠ (Value.slice Av dn.length cv).ownBlock := fun e => by have := ho3 y e.symm; omega
      exact ⟨hold y hl h1 h2, by have := M.hn; omega, by omega, h1, hgn y hl h2⟩) _ _ hnd)
  have hb6 : Below w.heap.size w (World.setCell w5 ⟨n, 3, none⟩ (.slice (some ⟨gg, 0, none⟩) (dn.length + 1) cap)) := by
    have h1 : Below w.heap.size w (wr.alloc (.cells #[.int .i64 (na : Int), .int .i64 (nb : Int), .string ⟨nt.toArray⟩, .slice nA nn nn] 26)) := M.bel.alloc M.bel.size _
    exact (h1.grown hgrow (by simp; omega) (fun y hy => (M.own.lt y hy).1)).setCell (p := ⟨n, 3, none⟩) M.hn _
  refine ⟨?_, hr6, ?_, ?_, hb6, ?_, ?_, M.rn, M.hn, M.hr⟩
  · rw [hlen]; exact hn6
  · rw [hlen]; exact hown6
  · rw [hlen]; exact hk6
  · rw [hlen]; exact hgn n M.box.lt M.nn
  · rw [hlen]; exact hgn r M.rb.lt M.rr
end

theorem kid_node {w : World} {F : Nat → Prop} {q : Nat} : ∀ {p : Tr.PT}, Tr.wfP p → PtF w F p (.iface 90 (.pointer (some ⟨q, 0, none⟩))) → ∀ w', Below w.heap.size w w' → Calls Tryz.prog 39 #[.pointer (some ⟨q, 0, none⟩)] w' (NodeE w' p)
  | .leaf _ _ _, _, h => by
    obtain ⟨g, e, _⟩ := h
    injection e with e
    exact absurd e (by decide)
  | .gap _ _ _, _, h => by
    obtain ⟨g, e, _⟩ := h
    injection e with e
    exact absurd e (by decide)
  | .branch k a l, hw, h => fun w' hb => by
    unfold Tr.wfP at hw
    obtain ⟨g, e, hF, A, c, vs, hB, hc, hr, hp⟩ := h
    injection e with _ e
    obtain rfl : q = g := by simpa using e
    exact branch_node (F := F) (hB.below hb hB.lt) (hr.keep hb.size fun x hx hl => ⟨hb.block x hl, hx⟩) (PtsF.keep hb.size (fun x hx hl => ⟨hb.block x hl, hx⟩) _ _ hp) hw.2.1 (nodes_all l hw.2.2)
theorem wfs_mem : ∀ (l : List Tr.PT), Tr.wfsP l → ∀ p ∈ l, Tr.wfP p
  | [], _, p, hp => absurd hp (by simp)
  | q :: l, hw, p, hp => by
    unfold Tr.wfsP at hw
    rcases List.mem_cons.1 hp with he | hp
    · rw [he]; exact hw.1
    · exact wfs_mem l hw.2 p hp

set_option maxHeartbeats 16000000 in
set_option maxRecDepth 100000 in
theorem root_walk {w : World} {F : Nat → Prop} {gt d : Nat} {A : Option Addr} {c : Nat} {T : List Tk} {ks : List Tr.Kd} {ts : List Tr.PT} (h : TreeIs w F gt d A c T ks ts) (hk : ks.length ≤ 100000000) (ht : ts.length ≤ 100000000) (hwf : Tr.wfsP (ks.map (·.part) ++ ts)) :
    Calls Tryz.prog 12 #[.pointer (some ⟨gt, 0, none⟩)] w (NodeE w (.branch 2 0 (ks.map (·.part) ++ ts))) := by
  obtain ⟨i0, ji, jz0, jz1, jz2⟩ := info_parts infoNode
  obtain ⟨Ak, ck, At, ct, vs, us, hB, hkc, htc, hrk, hks, hrt, hts⟩ := h.ex
  have hIH := nodes_all _ hwf
  have hd : Below w.heap.size w (w.alloc (.cells #[.int .i64 0, .int .i64 0, .string ⟨#[]⟩, .slice none 0 0] 26)) := (Below.refl _ _).alloc (Nat.le_refl _) _
  have hr : Blk (w.alloc (.cells #[.int .i64 0, .int .i64 0, .string ⟨#[]⟩, .slice none 0 0] 26)) w.heap.size 26 #[.int .i64 0, .int .i64 0, .string ⟨#[]⟩, .slice none 0 0] := Blk.new _ _ _
  have hd2 : Below w.heap.size w ((w.alloc (.cells #[.int .i64 0, .int .i64 0, .string ⟨#[]⟩, .slice none 0 0] 26)).alloc (.cells #[.int .i64 2, .int .i64 0, .string ⟨#[]⟩, .slice none 0 0] 26)) := hd.alloc hd.size _
  have hz1 : (w.alloc (.cells #[.int .i64 0, .int .i64 0, .string ⟨#[]⟩, .slice none 0 0] 26)).heap.size = w.heap.size + 1 := by simp
  have hn := Blk.new (w.alloc (.cells #[.int .i64 0, .int .i64 0, .string ⟨#[]⟩, .slice none 0 0] 26)) 26 #[.int .i64 2, .int .i64 0, .string ⟨#[]⟩, .slice none 0 0]
  rw [hz1] at hn
  have M : NdMid w w.heap.size (w.heap.size + 1) 2 [] none 0 [] ((w.alloc (.cells #[.int .i64 0, .int .i64 0, .string ⟨#[]⟩, .slice none 0 0] 26)).alloc (.cells #[.int .i64 2, .int .i64 0, .string ⟨#[]⟩, .slice none 0 0] 26)) :=
    ⟨hn, hr.alloc _, World.ownsRow_nil _ _ _ _, rfl, hd2, by simp [Value.ownBlock], by simp [Value.ownBlock], by omega, by omega, Nat.le_refl _⟩
  obtain ⟨r, hr0⟩ : ∃ r, r = w.heap.size := ⟨_, rfl⟩
  obtain ⟨n, hn0⟩ : ∃ n, n = w.heap.size + 1 := ⟨_, rfl⟩
  rw [← hn0, ← hr0] at M
  clear hd hr hd2 hn hz1
  go_enter Tryz.func12, Tryz.ntmps12
  go_upto_region 2 with fail
  rw [← hn0, ← hr0]
  clear hn0 hr0
  generalize ((w.alloc (.cells #[.int .i64 0, .int .i64 0, .string ⟨#[]⟩, .slice none 0 0] 26)).alloc (.cells #[.int .i64 2, .int .i64 0, .string ⟨#[]⟩, .slice none 0 0] 26)) = w2 at *
  have hB2 := fun w' (hb : Below w.heap.size w w') => hB.below hb hB.lt
  have Hk := Lib.hid hk
  have Ht := Lib.hid ht
  have c2 := (hB2 w2 M.bel).cell 2
  simp at c2
  clear hk ht
  go_wp2_with fail
  go_loopg [14] ks.length (fun m v wr => ∃ (i : Nat) (Av : Option Addr) (cv : Nat) (cells : List Value), v = .int .i64 (i : Int) ∧ i ≤ ks.length ∧ ks.length - i ≤ m ∧ NdMid w r n 2 ((ks.take i).map (·.part)) Av cv cells wr)
  case atStart => exact ⟨0, none, 0, [], rfl, Nat.zero_le _, Nat.le_refl _, M⟩
  case round =>
    clear M c2
    obtain ⟨i, Av, cv, cells, rfl, hi, hm, M⟩ := hrel
    by_cases hlt : i < ks.length
    · have ii0 : (0 : Int) ≤ (i : Int) := by omega
      have ii1 : (i : Int) < (ks.length : Int) := by omega
      obtain ⟨qp, v0, v1, v2, v3, hpv⟩ := hks.at_ hlt
      obtain ⟨br, o, rfl, _, hbl, hc⟩ := hrk (by have := KdsF.len hks; omega)
      have e0 := hc _ _ v0
      have e1 := hc _ _ v1
      have e2 := hc _ _ v2
      have e3 := hc _ _ v3
      rw [← Nat.add_assoc] at e1 e2 e3
      have hbelow := M.bel
      have q0 := (hbelow.cell (p := ⟨br, o + i * 4, none⟩) hbl).trans e0
      have q1 := (hbelow.cell (p := ⟨br, o + i * 4 + 1, none⟩) hbl).trans e1
      have q2 := (hbelow.cell (p := ⟨br, o + i * 4 + 2, none⟩) hbl).trans e2
      have q3 := (hbelow.cell (p := ⟨br, o + i * 4 + 3, none⟩) hbl).trans e3
      have hcl := kid_node (wfs_mem _ hwf ks[i].part (List.mem_append_left _ (List.mem_map_of_mem (List.getElem_mem hlt)))) hpv
      have HD : Hid ((ks.take (i + 1)).map (·.part) = (ks.take i).map (·.part) ++ [ks[i].part]) := by show _ = _; rw [List.take_succ_eq_append_getElem hlt, List.map_append]; rfl
      have Hdl : Hid (((ks.take i).map (·.part)).length ≤ 200000000) := by show _ ≤ _; rw [List.length_map, List.length_take]; have := Hk.out; omega
      have Hdi : Hid (((ks.take i).map (·.part)).length = i) := by show _ = _; rw [List.length_map, List.length_take]; omega
      generalize ks[i].part = p at *
      generalize ks[i].base = kb0 at *
      generalize ks[i].first = kf at *
      generalize ks[i].last = kl at *
      generalize (ks.take i).map (·.part) = dn at *
      have Hlt := Lib.hid hlt
      have Hm := Lib.hid hm
      clear v0 v1 v2 v3 hpv hc e0 e1 e2 e3 hbl hbelow hlt hm hi
      have hd : Below wr.heap.size wr (wr.alloc (.cells #[.pointer (some ⟨qp, 0, none⟩), .int .i64 (kb0 : Int), .int .i64 (kf : Int), .int .i64 (kl : Int)] 92)) := (Below.refl _ _).alloc (Nat.le_refl _) _
      have hKb : Blk (wr.alloc (.cells #[.pointer (some ⟨qp, 0, none⟩), .int .i64 (kb0 : Int), .int .i64 (kf : Int), .int .i64 (kl : Int)] 92)) wr.heap.size 92 #[.pointer (some ⟨qp, 0, none⟩), .int .i64 (kb0 : Int), .int .i64 (kf : Int), .int .i64 (kl : Int)] := Blk.new _ _ _
      obtain ⟨kb, hkb⟩ : ∃ kb, kb = wr.heap.size := ⟨_, rfl⟩
      rw [← hkb] at hKb
      have M := M.below hd
      go_upto_region 5 with fail
      rw [← hkb]
      clear hkb q0 q1 q2 q3 hd
      generalize (wr.alloc (.cells #[.pointer (some ⟨qp, 0, none⟩), .int .i64 (kb0 : Int), .int .i64 (kf : Int), .int .i64 (kl : Int)] 92)) = w3 at *
      refine wp_region_G 8 (fun w' : World => w'.cell? ⟨n, 3, none⟩ = some (.slice Av dn.length cv) ∧ w'.cell? ⟨kb, 0, none⟩ = some (.pointer (some ⟨qp, 0, none⟩))) (by kernel_rfl) ?_
      have hdr : Below w3.heap.size w3 w3.drew := (Below.refl _ _).drew
      have M := M.below hdr
      have hKb := hKb.drew
      clear hdr
      generalize w3.drew = w3 at *
      have n3 := M.box.cell 3
      have kq := hKb.cell 0
      simp at n3 kq
      have hS0 : (fun w' : World => w'.cell? ⟨n, 3, none⟩ = some (.slice Av dn.length cv) ∧ w'.cell? ⟨kb, 0, none⟩ = some (.pointer (some ⟨qp, 0, none⟩))) w3 := ⟨n3, kq⟩
      refine wpAnyG_take (i := 0) (v := ?_) rfl (by kernel_rfl) (by kernel_rfl) (by kernel_rfl) (by kernel_rfl) (fun _ _ _ h => h) (Or.inl ⟨by rfl, ?_⟩) hS0 ?_; rotate_left; · (intro w hSw; (try dsimp only at hSw); obtain ⟨s0, s1⟩ := hSw; go_simp; try with_reducible rfl)
      simp only [Act.put, List.setIfInBounds_toArray]
      refine wpAnyG_take (i := 1) (v := ?_) rfl (by kernel_rfl) (by kernel_rfl) (by kernel_rfl) (by kernel_rfl) (fun _ _ _ h => h) (Or.inl ⟨by rfl, ?_⟩) hS0 ?_; rotate_left; · (intro w hSw; (try dsimp only at hSw); obtain ⟨s0, s1⟩ := hSw; go_simp; try with_reducible rfl)
      simp only [Act.put]
      refine wpAnyG_take (i := 2) (v := ?_) rfl (by kernel_rfl) (by kernel_rfl) (by kernel_rfl) (by kernel_rfl) (fun _ _ _ h => h) (Or.inl ⟨by rfl, ?_⟩) hS0 ?_; rotate_left; · (intro w hSw; (try dsimp only at hSw); obtain ⟨s0, s1⟩ := hSw; go_simp; try with_reducible rfl)
      simp only [Act.put]
      refine wpAnyG_take (i := 3) (v := ?_) rfl (by kernel_rfl) (by kernel_rfl) (by kernel_rfl) (by kernel_rfl) (fun _ _ _ h => h) (Or.inl ⟨by rfl, ?_⟩) hS0 ?_; rotate_left; · (intro w hSw; (try dsimp only at hSw); obtain ⟨s0, s1⟩ := hSw; go_simp; try with_reducible rfl)
      simp only [Act.put]
      clear hS0
      have hcl := hcl w3 M.bel
      refine wpAnyG_one (i := 4) (by kernel_rfl) rfl (fun C hC => ?_)
      go_simp
      ((with_reducible refine hcl.mono ?_))
      clear hcl n3 kq
      intro e w4 h4
      obtain ⟨na, nb, nt, nA, nn, rfl, hnd, hb4⟩ := h4
      have hz3 := M.lts
      have M4 := M.below hb4
      have hKb := hKb.below hb4 hKb.lt
      have n3 := M4.box.cell 3
      simp at n3
      have kq := hKb.cell 0
      simp at kq
      refine hC.out _ _ (fun _ => ⟨n3, kq⟩) ?_
      clear hC C
      have hbl := M4.box.lt
      refine wpAnyG_one (i := 5) (by kernel_rfl) rfl (fun C hC => ?_)
      go_simp
      refine hC.out _ _ (fun _ => ⟨(cell_alloc _ _ _ _ hbl).trans n3, (cell_alloc _ _ _ _ hKb.lt).trans kq⟩) ?_
      clear hC C
      refine wpAnyG_one (i := 6) (by kernel_rfl) rfl (fun C hC => ?_)
      refine step_append_lies _ (by rfl) _ _ _ (by rfl) w.heap.size 26 i0 _ 4 56 Tryz.underlying24 ji jz0 jz1 jz2 rfl (by have := Hdl.out; omega) (.slice Av dn.length cv) dn.length cells (by rfl) (M4.own.alloc (.cells #[.int .i64 (na : Int), .int .i64 (nb : Int), .string ⟨nt.toArray⟩, .slice nA nn nn] 26)) ⟨w4.heap.size, 0, none⟩ 1 1 #[.int .i64 (na : Int), .int .i64 (nb : Int), .string ⟨nt.toArray⟩, .slice nA nn nn].toList (by rfl) (by rfl) (World.news_of_block (heap_alloc_new w4 _)) (by simp [Value.oneCell']) (by have := Hdl.out; omega) (by have := Hdl.out; unfold maxLen; omega) (by have := Hdl.out; omega) (by have := M4.bel.size; simp; omega) (w4.heap.size + 1) (by simp) ?_
      intro gg cap w5 hown5 hgrow hat hlt5
      have hn5 := (M4.box.alloc (.cells #[.int .i64 (na : Int), .int .i64 (nb : Int), .string ⟨nt.toArray⟩, .slice nA nn nn] 26)).grown hgrow M4.nn
      have m3 := hn5.cell 3
      have mf := hn5.frozen 3
      simp at m3
      have hk5 := (hKb.alloc (.cells #[.int .i64 (na : Int), .int .i64 (nb : Int), .string ⟨nt.toArray⟩, .slice nA nn nn] 26)).grown hgrow (own_ne M4.own hKb (by decide))
      have kq5 := hk5.cell 0
      simp at kq5
      refine hC.out _ _ (fun _ => ⟨m3, kq5⟩) ?_
      clear hC C
      refine wpAnyG_one (i := 7) (by kernel_rfl) rfl (fun C hC => ?_)
      go_simp
      refine hC.out _ _ (fun _ => ⟨m3, kq5⟩) ?_
      clear hC C
      refine wpAnyG_one (i := 8) (by kernel_rfl) rfl (fun C hC => ?_)
      go_simp
      refine hC.out _ _ (fun h => absurd rfl h) ?_
      clear hC C
      refine wpAnyG_done (by kernel_rfl) ?_ _
      have M6 := M4.push hz3 hnd hown5 hgrow hat
      have hlen : (dn ++ [p]).length = dn.length + 1 := by simp
      clear M M4 hnd hb4 n3 hown5 hgrow hat hlt5 hn5 m3 mf hbl hKb kq hk5 kq5
      generalize (World.setCell w5 ⟨n, 3, none⟩ (.slice (some ⟨gg, 0, none⟩) (dn.length + 1) cap)) = w6 at *
      have c1 : IntKind.i64.wrap ((i : Int) + 1) = (i : Int) + 1 := IntWalk.i64_in _ (by have := Hlt.out; have := Hk.out; omega)
      rw [← HD.out] at M6
      go_wp2_with fail
      go_roundg (ks.length - (i + 1))
      case rel => exact ⟨i + 1, _, _, _, by go_num, by have := Hlt.out; omega, Nat.le_refl _, M6⟩
      case measure => have := Hlt.out; have := Hm.out; omega
    · obtain rfl : i = ks.length := by omega
      have i1 : ¬ (ks.length : Int) < (ks.length : Int) := by omega
      have i2 : decide (ks.length < ks.length) = false := by simp
      rw [List.take_length] at M
      have c3 := (hB2 wr M.bel).cell 3
      simp at c3
      have Hkl : Hid ((ks.map (·.part)).length ≤ 100000000) := by show _ ≤ _; rw [List.length_map]; exact Hk.out
      generalize hkd : ks.map (·.part) = kd at *
      have Hkd := Lib.hid hkd
      clear hlt hi hm hkd
      go_wp2_with fail
      go_loopg [32] ts.length (fun m v wr => ∃ (j : Nat) (Av : Option Addr) (cv : Nat) (cells : List Value), v = .int .i64 (j : Int) ∧ j ≤ ts.length ∧ ts.length - j ≤ m ∧ NdMid w r n 2 (kd ++ ts.take j) Av cv cells wr)
      case atStart => exact ⟨0, Av, cv, cells, rfl, Nat.zero_le _, Nat.le_refl _, by rw [List.take_zero, List.append_nil]; exact M⟩
      case round =>
        clear M c3
        obtain ⟨j, Av, cv, cells, rfl, hj, hm, M⟩ := hrel
        by_cases hlt : j < ts.length
        · have ii0 : (0 : Int) ≤ (j : Int) := by omega
          have ii1 : (j : Int) < (ts.length : Int) := by omega
          obtain ⟨v, hv, hpv⟩ := hts.at_ hlt
          have hvu : us[j]? = some v := hv
          obtain ⟨tt, qp, f, rfl, hni, hme, hcf, hcl⟩ := hIH ts[j] (List.mem_append_right _ (List.getElem_mem hlt)) w F v hpv
          obtain ⟨br, o, rfl, hcell⟩ := hrt.at_ hvu
          have hbl := World.block_lt_of_cell? w ⟨br, o + j, none⟩ hcell
          have q0 := (M.bel.cell (p := ⟨br, o + j, none⟩) hbl).trans hcell
          have HD : Hid (kd ++ ts.take (j + 1) = (kd ++ ts.take j) ++ [ts[j]]) := by show _ = _; rw [List.take_succ_eq_append_getElem hlt, List.append_assoc]
          have Hdl : Hid ((kd ++ ts.take j).length ≤ 200000000) := by show _ ≤ _; rw [List.length_append, List.length_take]; have := Hkl.out; have := Ht.out; omega
          generalize ts[j] = p at *
          generalize kd ++ ts.take j = dn at *
          have Hlt := Lib.hid hlt
          have Hm := Lib.hid hm
          clear hpv hv hvu hcell hbl hlt hm hj
          go_wp2_with fail
          refine wp_region_G 7 (fun w' : World => w'.cell? ⟨n, 3, none⟩ = some (.slice Av dn.length cv)) (by kernel_rfl) ?_
          have hdr : Below wr.heap.size wr wr.drew := (Below.refl _ _).drew
          have M := M.below hdr
          clear q0 hdr
          generalize wr.drew = w3 at *
          have n3 := M.box.cell 3
          simp at n3
          have hS0 : (fun w' : World => w'.cell? ⟨n, 3, none⟩ = some (.slice Av dn.length cv)) w3 := n3
          refine wpAnyG_take (i := 0) (v := ?_) rfl (by kernel_rfl) (by kernel_rfl) (by kernel_rfl) (by kernel_rfl) (fun _ _ _ h => h) (Or.inl ⟨by rfl, ?_⟩) hS0 ?_; rotate_left; · (intro w hSw; (try dsimp only at hSw); have s0 := hSw; go_simp; try with_reducible rfl)
          simp only [Act.put, List.setIfInBounds_toArray]
          refine wpAnyG_take (i := 1) (v := ?_) rfl (by kernel_rfl) (by kernel_rfl) (by kernel_rfl) (by kernel_rfl) (fun _ _ _ h => h) (Or.inl ⟨by rfl, ?_⟩) hS0 ?_; rotate_left; · (intro w hSw; (try dsimp only at hSw); have s0 := hSw; go_simp; try with_reducible rfl)
          simp only [Act.put]
          refine wpAnyG_take (i := 2) (v := ?_) rfl (by kernel_rfl) (by kernel_rfl) (by kernel_rfl) (by kernel_rfl) (fun _ _ _ h => h) (Or.inl ⟨by rfl, ?_⟩) hS0 ?_; rotate_left; · (intro w hSw; (try dsimp only at hSw); have s0 := hSw; go_simp; try with_reducible rfl)
          simp only [Act.put]
          clear hS0
          have hcl := hcl w3 M.bel
          refine wpAnyG_one (i := 3) (by kernel_rfl) rfl (fun C hC => ?_)
          go_simp
          ((with_reducible refine hcl.mono ?_))
          clear hcl n3
          intro e w4 h4
          obtain ⟨na, nb, nt, nA, nn, rfl, hnd, hb4⟩ := h4
          have hz3 := M.lts
          have M4 := M.below hb4
          have n3 := M4.box.cell 3
          simp at n3
          refine hC.out _ _ (fun _ => n3) ?_
          clear hC C
          have hbl := M4.box.lt
          refine wpAnyG_one (i := 4) (by kernel_rfl) rfl (fun C hC => ?_)
          go_simp
          refine hC.out _ _ (fun _ => (cell_alloc _ _ _ _ hbl).trans n3) ?_
          clear hC C
          refine wpAnyG_one (i := 5) (by kernel_rfl) rfl (fun C hC => ?_)
          refine step_append_lies _ (by rfl) _ _ _ (by rfl) w.heap.size 26 i0 _ 4 56 Tryz.underlying24 ji jz0 jz1 jz2 rfl (by have := Hdl.out; omega) (.slice Av dn.length cv) dn.length cells (by rfl) (M4.own.alloc (.cells #[.int .i64 (na : Int), .int .i64 (nb : Int), .string ⟨nt.toArray⟩, .slice nA nn nn] 26)) ⟨w4.heap.size, 0, none⟩ 1 1 #[.int .i64 (na : Int), .int .i64 (nb : Int), .string ⟨nt.toArray⟩, .slice nA nn nn].toList (by rfl) (by rfl) (World.news_of_block (heap_alloc_new w4 _)) (by simp [Value.oneCell']) (by have := Hdl.out; omega) (by have := Hdl.out; unfold maxLen; omega) (by have := Hdl.out; omega) (by have := M4.bel.size; simp; omega) (w4.heap.size + 1) (by simp) ?_
          intro gg cap w5 hown5 hgrow hat hlt5
          have hn5 := (M4.box.alloc (.cells #[.int .i64 (na : Int), .int .i64 (nb : Int), .string ⟨nt.toArray⟩, .slice nA nn nn] 26)).grown hgrow M4.nn
          have m3 := hn5.cell 3
          have mf := hn5.frozen 3
          simp at m3
          refine hC.out _ _ (fun _ => m3) ?_
          clear hC C
          refine wpAnyG_one (i := 6) (by kernel_rfl) rfl (fun C hC => ?_)
          go_simp
          refine hC.out _ _ (fun _ => m3) ?_
          clear hC C
          refine wpAnyG_one (i := 7) (by kernel_rfl) rfl (fun C hC => ?_)
          go_simp
          refine hC.out _ _ (fun h => absurd rfl h) ?_
          clear hC C
          refine wpAnyG_done (by kernel_rfl) ?_ _
          have M6 := M4.push hz3 hnd hown5 hgrow hat
          have hlen : (dn ++ [p]).length = dn.length + 1 := by simp
          clear M M4 hnd hb4 n3 hown5 hgrow hat hlt5 hn5 m3 mf hbl
          generalize (World.setCell w5 ⟨n, 3, none⟩ (.slice (some ⟨gg, 0, none⟩) (dn.length + 1) cap)) = w6 at *
          have c1 : IntKind.i64.wrap ((j : Int) + 1) = (j : Int) + 1 := IntWalk.i64_in _ (by have := Hlt.out; have := Ht.out; omega)
          rw [← HD.out] at M6
          go_wp2_with fail
          go_roundg (ts.length - (j + 1))
          case rel => exact ⟨j + 1, _, _, _, by go_num, by have := Hlt.out; omega, Nat.le_refl _, M6⟩
          case measure => have := Hlt.out; have := Hm.out; omega
        · obtain rfl : j = ts.length := by omega
          have j1 : ¬ (ts.length : Int) < (ts.length : Int) := by omega
          have j2 : decide (ts.length < ts.length) = false := by simp
          rw [List.take_length] at M
          generalize hal : kd ++ ts = al at *
          have Hal := Lib.hid hal
          clear hlt hj hm hIH hwf hal
          obtain ⟨Av', cv', he, hle, hnone⟩ := own_cap M.own
          injection he with e1 _ e3
          subst e1 e3
          have hcp := nclip_walk Av al.length cv wr hle hnone
          have n3 := M.box.cell 3
          have nf := M.box.frozen 3
          simp at n3
          obtain ⟨_, hrw⟩ := own_row (F := fun x => some x = (Value.slice Av al.length cv).ownBlock) M.own fun y hy => hy.symm
          have hone := M.nn
          have horr := M.rr
          have hrn := M.rn
          have Hn := Lib.hid M.hn
          have Hr := Lib.hid M.hr
          have hol : ∀ y, (Value.slice Av al.length cv).ownBlock = some y → w.heap.size ≤ y := fun y hy => (M.own.lt y hy).1
          have hn := M.box
          have hr := M.rb
          have hkk := M.kids
          have hb := M.bel
          clear hle hnone M
          go_wp2_with fail
          refine hcp.mono ?_
          clear hcp
          rintro e w4 ⟨rfl, rfl⟩
          have hn6 := hn.set_ 3 (.slice Av al.length al.length)
          simp at hn6
          have hkeep : ∀ y, y ≠ n → (World.setCell wr ⟨n, 3, none⟩ (.slice Av al.length al.length)).heap[y]? = wr.heap[y]? := fun y hy => Below.heap_setCell wr ⟨n, 3, none⟩ _ y hy
          have hs6 : wr.heap.size ≤ (World.setCell wr ⟨n, 3, none⟩ (.slice Av al.length al.length)).heap.size := by simp [World.setCell]
          have hr6 : Blk (World.setCell wr ⟨n, 3, none⟩ (.slice Av al.length al.length)) r 26 #[.int .i64 0, .int .i64 0, .string ⟨#[]⟩, .slice none 0 0] := (hkeep r hrn).trans hr
          have hk6 : NdsF (World.setCell wr ⟨n, 3, none⟩ (.slice Av al.length al.length)) (fun x => w.heap.size ≤ x ∧ x ≠ r ∧ x ≠ n) al cells := NdsF.keep hs6 (fun y hF _ => ⟨hkeep y hF.2.2.1, hF.1, hF.2.1, hF.2.2.1⟩) _ _ hkk
          have hrw6 : RowF (World.setCell wr ⟨n, 3, none⟩ (.slice Av al.length al.length)) (fun x => w.heap.size ≤ x ∧ x ≠ r ∧ x ≠ n) Av cells := hrw.keep hs6 fun y hy _ => ⟨hkeep y (fun e => hone (by rw [← hy, e])), hol y hy.symm, fun e => horr (by rw [← hy, e]), fun e => hone (by rw [← hy, e])⟩
          have hb6 : Below w.heap.size w (World.setCell wr ⟨n, 3, none⟩ (.slice Av al.length al.length)) := hb.setCell (p := ⟨n, 3, none⟩) Hn.out _
          clear hn hr hkk hrw hb hone horr hol hs6 hkeep
          go_upto_region 13 with fail
          clear n3 nf
          generalize World.setCell wr ⟨n, 3, none⟩ (.slice Av al.length al.length) = w6 at *
          have x0 := hn6.cell 0
          have x1 := hn6.cell 1
          have x2 := hn6.cell 2
          have x3 := hn6.cell 3
          simp at x0 x1 x2 x3
          have k0 := hr6.cell 0
          have k1 := hr6.cell 1
          have k2 := hr6.cell 2
          have k3 := hr6.cell 3
          simp at k0 k1 k2 k3
          have y0 := hr6.frozen 0
          have y1 := hr6.frozen 1
          have y2 := hr6.frozen 2
          have y3 := hr6.frozen 3
          go_wp2_with fail
          have hb8 : Below w.heap.size w ((((World.setCell w6 ⟨r, 0, none⟩ (.int .i64 2)).setCell ⟨r, 1, none⟩ (.int .i64 0)).setCell ⟨r, 2, none⟩ (.string ⟨#[]⟩)).setCell ⟨r, 3, none⟩ (.slice Av al.length al.length)) := four_below hb6 Hr.out _ _ _ _
          have hs8 : w6.heap.size ≤ ((((World.setCell w6 ⟨r, 0, none⟩ (.int .i64 2)).setCell ⟨r, 1, none⟩ (.int .i64 0)).setCell ⟨r, 2, none⟩ (.string ⟨#[]⟩)).setCell ⟨r, 3, none⟩ (.slice Av al.length al.length)).heap.size := by simp [World.setCell]
          have hold : ∀ y, y ≠ r → ((((World.setCell w6 ⟨r, 0, none⟩ (.int .i64 2)).setCell ⟨r, 1, none⟩ (.int .i64 0)).setCell ⟨r, 2, none⟩ (.string ⟨#[]⟩)).setCell ⟨r, 3, none⟩ (.slice Av al.length al.length)).heap[y]? = w6.heap[y]? := fun y hy => (((Below.heap_setCell _ ⟨r, 3, none⟩ _ y hy).trans (Below.heap_setCell _ ⟨r, 2, none⟩ _ y hy)).trans (Below.heap_setCell _ ⟨r, 1, none⟩ _ y hy)).trans (Below.heap_setCell _ ⟨r, 0, none⟩ _ y hy)
          have hk8 := NdsF.keep (F' := fun x => w.heap.size ≤ x) hs8 (fun y hF _ => ⟨hold y hF.2.1, hF.1⟩) _ _ hk6
          have hrw8 := hrw6.keep (F' := fun x => w.heap.size ≤ x) hs8 (fun y hF _ => ⟨hold y hF.2.1, hF.1⟩)
          clear hb6 hs8 hold hk6 hrw6 hn6 x0 x1 x2 x3
          have hr6 := (((hr6.set_ 0 (.int .i64 2)).set_ 1 (.int .i64 0)).set_ 2 (.string ⟨#[]⟩)).set_ 3 (.slice Av al.length al.length)
          simp at hr6
          clear k0 k1 k2 k3 y0 y1 y2 y3
          generalize ((((World.setCell w6 ⟨r, 0, none⟩ (.int .i64 2)).setCell ⟨r, 1, none⟩ (.int .i64 0)).setCell ⟨r, 2, none⟩ (.string ⟨#[]⟩)).setCell ⟨r, 3, none⟩ (.slice Av al.length al.length)) = w8 at *
          have k0 := hr6.cell 0
          have k1 := hr6.cell 1
          have k2 := hr6.cell 2
          have k3 := hr6.cell 3
          simp at k0 k1 k2 k3
          (try simp only [Exit.inBlock, Exit.then])
          refine bodyPost_ret (v := .agg #[(.int .i64 2), (.int .i64 0), (.string ⟨#[]⟩), (.slice Av al.length al.length)]) (by simp [results, Tryz.results12, go_sem, k0, k1, k2, k3]; try rfl) rfl ?_
          rw [Hkd.out, Hal.out]
          exact ⟨2, 0, [], Av, al.length, rfl, ⟨Av, cells, rfl, hrw8, hk8⟩, hb8⟩
end Go.Proofs.YtalklmeejdmifaaGreatDoor
