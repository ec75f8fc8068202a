/-
  JOINED of the texts TP TS
-/
import Derived.Test.YtgpjcjnimheglaaGreatDoorJak
import Derived.Deep.AppendLies
import Derived.Deep.QuietTactic
import Derived.BigQuiet
import Derived.Lib.RuneBytes
import Derived.Lib.Strings
import Derived.Deep.DeepCutAuto
import Derived.Lib.ConvBytes
import Derived.Laws.Strings3
import Derived.Laws.Closers25
import Derived.Laws.Closers25b
import Derived.BigCall
import Derived.BigGuard
import Derived.Test.YtgpjcjnimheglaaGreatDoorShelfX
import Derived.Shelf.Spec.BytesIndexFunc
import Derived.Deep.RegionHeld3
import Derived.Lib.IndexMore
import Derived.Test.YtgpjcjnimheglaaGreatDoorRows
import Derived.WalkKit
import Derived.WalkSpells
import Derived.WalkLawsBesides
import Derived.Below
import Derived.Laws.OwnMore
import Derived.Deep.Draws
import Derived.Lib.Hide
import Derived.IntWalk
import Derived.Test.YtgpjcjnimheglaaGreatDoorShelfW
import Derived.Shelf.Strings.SlTrimAscii
import Derived.Lib.LaidTab
import Derived.Lib.AtoiAll
import Derived.Lib.IndexLaws
import Derived.Lib.SlTrimSet
import Derived.Lib.ItoaNum
import Derived.Lib.Atoi
import Derived.WalkMore
import Derived.ScopeJumps
import Derived.Maps.OwnOps
import Derived.Carry
import Derived.Deep.CutBlock
/-
  WALKS of package tree: call, on a reading of parts.
-/
namespace Go.Proofs.YtgpjcjnimheglaaGreatDoor
open Go.RowKit

set_option maxHeartbeats 8000000 in
set_option maxRecDepth 100000 in
theorem call_walk {w : World} {K : Nat → Prop} {g gt : Nat} {s : Bs} {T : List Tk} {b n i : Nat} {e : Nat → Tr.St} (X : Txts s T) (E : ExC g gt s T b (n + 1) e) (R : Rdr w K g gt s T b n i) (hn : n ≤ 1000)
    (hpart : Calls Tryz.prog 202 #[.pointer (some ⟨g, 0, none⟩)] w (PtE w K g gt s T b n (Tr.partP s T b e i))) :
    Calls Tryz.prog 198 #[.pointer (some ⟨g, 0, none⟩)] w (PtE w K g gt s T b n (Tr.callP s T b e i)) := by
  have hT := X.hT
  have Hg1 := Tr.part_goes s T b E.adv i R.hi
  generalize hr : Tr.callP s T b e i = r
  have Hr : Hid (Tr.callsP s T b e (T.length + 1) (Tr.partP s T b e i) = r) := hr
  clear hr
  go_enter Tryz.func198, Tryz.ntmps198
  go_wp2_with fail
  refine hpart.mono ?_
  clear hpart
  intro e1 w1 h1
  obtain ⟨v, rfl, hA1, R1, hp⟩ := h1
  generalize Tr.partP s T b e i = q1 at *
  go_wp2_with fail
  go_loopg [3, 4] (T.length - q1.2) (fun q v _ wr => ∃ x : Tr.PT × Nat, q1.2 ≤ x.2 ∧ T.length - x.2 ≤ q ∧ Hid (Tr.callsP s T b e (T.length + 1) x = r) ∧ Aft K g w wr ∧ Rdr wr K g gt s T b n x.2 ∧ PtF wr (fun x => ¬ K x) x.1 v)
  case atStart => exact ⟨q1, Nat.le_refl _, Nat.le_refl _, Hr, hA1, R1, hp⟩
  case round =>
    clear hA1 R1 hp Hr
    obtain ⟨x, hx1, hq, Hx, hA, R, hp⟩ := hrel
    have hi := R.hi
    have his : Calls Tryz.prog 118 #[.pointer (some ⟨g, 0, none⟩), .slice (some ⟨wr.heap.size, 0, none⟩) 1 1] (wr.alloc (.cells #[.string ⟨#[40]⟩] 9)) fun e w' => e = .returned (.bool (Tr.isP s T [[40]] x.2)) ∧ Below wr.heap.size wr w' := is_lit X R [[40]] (by simp) 1
    have Hstep : Hid (Tr.isP s T [[40]] x.2 = true → Tr.callsP s T b e (T.length + 1) (Tr.callR s T b e x) = r ∧ x.2 < (Tr.callR s T b e x).2) := fun h => ⟨by rw [← Tr.calls_step s T b E.adv x R.hi h]; exact Hx.out, Tr.list_gt s T b E.adv 12 [41] x.2 R.hi (Tr.is_lt s T h)⟩
    have Hstop : Hid (Tr.isP s T [[40]] x.2 = false → x = r) := fun h => by rw [← Tr.calls_stop s T b e x h]; exact Hx.out
    generalize Tr.isP s T [[40]] x.2 = vb at *
    go_wp2_with fail
    refine his.mono ?_
    clear his
    rintro e1 w2 ⟨rfl, hd⟩
    have hA := hA.trans (Kept.aft (Kept.below hd R.inK) g)
    have hp := PtF.keep (F' := fun x => ¬ K x) hd.size (fun y hF hl => ⟨hd.block y hl, hF⟩) _ _ hp
    have R := R.below hd
    clear hd
    cases vb with
    | true =>
      obtain ⟨hst, hgt⟩ := Hstep.out rfl
      have Hst := Lib.hid hst
      clear Hstep Hstop Hx hst
      have har := around_walk R.inK 11 hp
      have hxr : Hid (Tr.callR s T b e x = (.branch 11 x.1.from_ [x.1, (Tr.listP s T b e 12 [41] x.2).1], (Tr.listP s T b e 12 [41] x.2).2)) := rfl
      generalize x.1.from_ = fr at *
      go_wp2_with fail
      refine har.mono ?_
      clear har
      rintro e1 w3 ⟨h, rfl, hd, hhs, hb⟩
      have hA := hA.trans (Kept.aft (Kept.below hd R.inK) g)
      have R := R.below hd
      clear hd hp
      have hls := list_walk X E R hb (by simp) hn 12 [41]
      go_wp2_with fail
      refine hls.mono ?_
      clear hls hb R
      intro e1 w4 h4
      obtain ⟨rfl, hA4, R4, B4⟩ := h4
      have hA4 := hA.trans hA4
      have hp4 := B4.part
      have hx : Tr.thn ([x.1], x.2) (fun i => Tr.oneP (Tr.listP s T b e 12 [41] i)) = ([x.1, (Tr.listP s T b e 12 [41] x.2).1], (Tr.listP s T b e 12 [41] x.2).2) := rfl
      rw [hx] at R4 hp4
      clear hA hx
      have R5 : Rdr w4 K g gt s T b n (Tr.callR s T b e x).2 := by rw [hxr.out]; exact R4
      have hp5 : PtF w4 (fun x => ¬ K x) (Tr.callR s T b e x).1 (.iface 94 (.pointer (some ⟨h, 0, none⟩))) := by rw [hxr.out]; exact hp4
      clear R4 hp4 hxr B4
      generalize Tr.callR s T b e x = y at *
      go_wp2_with fail
      go_roundg (T.length - y.2)
      case rel => exact ⟨y, by omega, Nat.le_refl _, Hst, hA4, R5, hp5⟩
      case measure => have h2 : y.2 ≤ T.length := R5.hi; omega
    | false =>
      have hst := Hstop.out rfl
      clear Hstep Hstop Hx
      subst hst
      go_wp2_with fail
      go_ret
      exact ⟨_, rfl, hA, R, hp⟩
end Go.Proofs.YtgpjcjnimheglaaGreatDoor
/-
  WALKS of package tree: what let, if and fun read; calls, products, sums as methods.
-/
namespace Go.Proofs.YtgpjcjnimheglaaGreatDoor
open Go.RowKit

theorem params_st {w0 w : World} {K : Nat → Prop} {g gt h kind at_ : Nat} {s : Bs} {T : List Tk} {b n i c : Nat} {st : Tr.St} (X : Txts s T) (S : StR w0 K g gt h kind at_ s T b n i c st w) (hc : c ≤ 1000) :
    Calls Tryz.prog 146 #[.pointer (some ⟨g, 0, none⟩), .pointer (some ⟨h, 0, none⟩)] w fun e w' => e = .returned (.tuple #[]) ∧ StR w0 K g gt h kind at_ s T b n i (c + 1) (Tr.thn st fun i => Tr.oneP (Tr.paramsP s T b i)) w' :=
  (params_walk X S.R S.B (by have := S.len X hc; omega)).mono fun _ _ he => S.step (Tr.Adv.one (Tr.params_goes s T b)) he

section
variable {g gt : Nat} {s : Bs} {T : List Tk} {b n : Nat} {e : Nat → Tr.St}
theorem one_call (X : Txts s T) (E : ExC g gt s T b (n + 1) e) (hn : n ≤ 1000) : OneC g gt s T b n 198 (Tr.callP s T b e) :=
  ⟨fun _ _ => by kernel_rfl, fun _ _ _ R => call_walk X E R hn (part_walk X E R hn)⟩
theorem one_product (X : Txts s T) (E : ExC g gt s T b (n + 1) e) (hn : n ≤ 1000) : OneC g gt s T b n 190 (Tr.productP s T b e) :=
  ⟨fun _ _ => by kernel_rfl, fun _ _ _ R => product_walk X R (one_call X E hn) (Tr.call_goes s T b E.adv)⟩
theorem one_sum (X : Txts s T) (E : ExC g gt s T b (n + 1) e) (hn : n ≤ 1000) : OneC g gt s T b n 175 (Tr.sumP s T b e) :=
  ⟨fun _ _ => by kernel_rfl, fun _ _ _ R => sum_walk X R (one_product X E hn) (Tr.product_goes s T b E.adv)⟩
theorem comp_walk {w : World} {K : Nat → Prop} {i : Nat} (X : Txts s T) (E : ExC g gt s T b (n + 1) e) (hn : n ≤ 1000) (R : Rdr w K g gt s T b n i) :
    Calls Tryz.prog 161 #[.pointer (some ⟨g, 0, none⟩)] w (PtE w K g gt s T b n (Tr.compP s T b e i)) := comparison_walk X R (one_sum X E hn)
end

set_option maxHeartbeats 8000000 in
set_option maxRecDepth 100000 in
theorem expr1_walk {w : World} {K : Nat → Prop} {g gt hl kl pl : Nat} {s : Bs} {T : List Tk} {b n i : Nat} {e : Nat → Tr.St} (X : Txts s T) (E : ExC g gt s T b n e) (S : StR w K g gt hl kl pl s T b n i 0 ([], i) w) (qr ql : Nat)
    (HB : Hid (∀ w', Aft K g w w' → w'.cell? ⟨qr, 0, none⟩ = some (.pointer (some ⟨g, 0, none⟩)) ∧ w'.cell? ⟨ql, 0, none⟩ = some (.pointer (some ⟨hl, 0, none⟩)))) :
    Calls Tryz.prog 158 #[.pointer (some ⟨qr, 0, none⟩), .pointer (some ⟨ql, 0, none⟩)] w (StE w K g gt hl kl pl s T b n (Tr.thn (Tr.thn (Tr.thn (Tr.thn (Tr.thn (Tr.takeP s T b i) (Tr.nameP s T b)) (Tr.wantP s T b [61])) e) (Tr.wantP s T b [105, 110])) e)) := by
  obtain ⟨k0, k1⟩ := HB.out _ S.A
  have hst := take_st X S (by omega)
  rw [thn_nil] at hst
  clear S
  go_enter Tryz.func158, Tryz.ntmps158
  go_wp2_with fail
  refine hst.mono ?_
  clear hst k0 k1
  rintro e1 w1 ⟨rfl, S⟩
  obtain ⟨k0, k1⟩ := HB.out _ S.A
  have hst := name_st X S (by omega)
  clear S
  go_wp2_with fail
  refine hst.mono ?_
  clear hst k0 k1
  rintro e1 w2 ⟨rfl, S⟩
  obtain ⟨k0, k1⟩ := HB.out _ S.A
  have hst := want_st X S [61] (by omega)
  clear S
  go_wp2_with fail
  refine hst.mono ?_
  clear hst k0 k1
  rintro e1 w3 ⟨rfl, S⟩
  obtain ⟨k0, k1⟩ := HB.out _ S.A
  have hst := expr_st X E S (by omega)
  clear S
  go_wp2_with fail
  refine hst.mono ?_
  clear hst k0 k1
  rintro e1 w4 ⟨rfl, S⟩
  obtain ⟨k0, k1⟩ := HB.out _ S.A
  have hst := want_st X S [105, 110] (by omega)
  clear S
  go_wp2_with fail
  refine hst.mono ?_
  clear hst k0 k1
  rintro e1 w5 ⟨rfl, S⟩
  obtain ⟨k0, k1⟩ := HB.out _ S.A
  have hst := expr_st X E S (by omega)
  clear S
  go_wp2_with fail
  refine hst.mono ?_
  clear hst k0 k1
  rintro e1 w6 ⟨rfl, S⟩
  go_wp2_with fail
  go_end0
  exact ⟨rfl, S.A, S.R, S.B⟩

set_option maxHeartbeats 8000000 in
set_option maxRecDepth 100000 in
theorem expr2_walk {w : World} {K : Nat → Prop} {g gt hl kl pl : Nat} {s : Bs} {T : List Tk} {b n i : Nat} {e : Nat → Tr.St} (X : Txts s T) (E : ExC g gt s T b n e) (S : StR w K g gt hl kl pl s T b n i 0 ([], i) w) (qr ql : Nat)
    (HB : Hid (∀ w', Aft K g w w' → w'.cell? ⟨qr, 0, none⟩ = some (.pointer (some ⟨g, 0, none⟩)) ∧ w'.cell? ⟨ql, 0, none⟩ = some (.pointer (some ⟨hl, 0, none⟩)))) :
    Calls Tryz.prog 159 #[.pointer (some ⟨qr, 0, none⟩), .pointer (some ⟨ql, 0, none⟩)] w (StE w K g gt hl kl pl s T b n (Tr.thn (Tr.thn (Tr.thn (Tr.thn (Tr.thn (Tr.takeP s T b i) e) (Tr.wantP s T b [116, 104, 101, 110])) e) (Tr.wantP s T b [101, 108, 115, 101])) e)) := by
  obtain ⟨k0, k1⟩ := HB.out _ S.A
  have hst := take_st X S (by omega)
  rw [thn_nil] at hst
  clear S
  go_enter Tryz.func159, Tryz.ntmps159
  go_wp2_with fail
  refine hst.mono ?_
  clear hst k0 k1
  rintro e1 w1 ⟨rfl, S⟩
  obtain ⟨k0, k1⟩ := HB.out _ S.A
  have hst := expr_st X E S (by omega)
  clear S
  go_wp2_with fail
  refine hst.mono ?_
  clear hst k0 k1
  rintro e1 w2 ⟨rfl, S⟩
  obtain ⟨k0, k1⟩ := HB.out _ S.A
  have hst := want_st X S [116, 104, 101, 110] (by omega)
  clear S
  go_wp2_with fail
  refine hst.mono ?_
  clear hst k0 k1
  rintro e1 w3 ⟨rfl, S⟩
  obtain ⟨k0, k1⟩ := HB.out _ S.A
  have hst := expr_st X E S (by omega)
  clear S
  go_wp2_with fail
  refine hst.mono ?_
  clear hst k0 k1
  rintro e1 w4 ⟨rfl, S⟩
  obtain ⟨k0, k1⟩ := HB.out _ S.A
  have hst := want_st X S [101, 108, 115, 101] (by omega)
  clear S
  go_wp2_with fail
  refine hst.mono ?_
  clear hst k0 k1
  rintro e1 w5 ⟨rfl, S⟩
  obtain ⟨k0, k1⟩ := HB.out _ S.A
  have hst := expr_st X E S (by omega)
  clear S
  go_wp2_with fail
  refine hst.mono ?_
  clear hst k0 k1
  rintro e1 w6 ⟨rfl, S⟩
  go_wp2_with fail
  go_end0
  exact ⟨rfl, S.A, S.R, S.B⟩

set_option maxHeartbeats 8000000 in
set_option maxRecDepth 100000 in
theorem expr3_walk {w : World} {K : Nat → Prop} {g gt hl kl pl : Nat} {s : Bs} {T : List Tk} {b n i : Nat} {e : Nat → Tr.St} (X : Txts s T) (E : ExC g gt s T b n e) (S : StR w K g gt hl kl pl s T b n i 0 ([], i) w) (qr ql : Nat)
    (HB : Hid (∀ w', Aft K g w w' → w'.cell? ⟨qr, 0, none⟩ = some (.pointer (some ⟨g, 0, none⟩)) ∧ w'.cell? ⟨ql, 0, none⟩ = some (.pointer (some ⟨hl, 0, none⟩)))) :
    Calls Tryz.prog 160 #[.pointer (some ⟨qr, 0, none⟩), .pointer (some ⟨ql, 0, none⟩)] w (StE w K g gt hl kl pl s T b n (Tr.thn (Tr.thn (Tr.thn (Tr.takeP s T b i) fun i => Tr.oneP (Tr.paramsP s T b i)) (Tr.wantP s T b [61, 62])) e)) := by
  obtain ⟨k0, k1⟩ := HB.out _ S.A
  have hst := take_st X S (by omega)
  rw [thn_nil] at hst
  clear S
  go_enter Tryz.func160, Tryz.ntmps160
  go_wp2_with fail
  refine hst.mono ?_
  clear hst k0 k1
  rintro e1 w1 ⟨rfl, S⟩
  obtain ⟨k0, k1⟩ := HB.out _ S.A
  have hst := params_st X S (by omega)
  clear S
  go_wp2_with fail
  refine hst.mono ?_
  clear hst k0 k1
  rintro e1 w2 ⟨rfl, S⟩
  obtain ⟨k0, k1⟩ := HB.out _ S.A
  have hst := want_st X S [61, 62] (by omega)
  clear S
  go_wp2_with fail
  refine hst.mono ?_
  clear hst k0 k1
  rintro e1 w3 ⟨rfl, S⟩
  obtain ⟨k0, k1⟩ := HB.out _ S.A
  have hst := expr_st X E S (by omega)
  clear S
  go_wp2_with fail
  refine hst.mono ?_
  clear hst k0 k1
  rintro e1 w4 ⟨rfl, S⟩
  go_wp2_with fail
  go_end0
  exact ⟨rfl, S.A, S.R, S.B⟩

end Go.Proofs.YtgpjcjnimheglaaGreatDoor
