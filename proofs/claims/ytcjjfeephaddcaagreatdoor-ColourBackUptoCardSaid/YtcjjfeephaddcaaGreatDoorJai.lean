/-
  JOINED of the texts TW TZ UI
-/
import Derived.Test.YtcjjfeephaddcaaGreatDoorJah
import Derived.StillTailTactics
import Derived.Handy
set_option linter.all false
namespace Go.Proofs.YtcjjfeephaddcaaGreatDoor
open Go.RowKit
def PbE (w : World) (K : Nat → Prop) (g gt : Nat) (s : Bs) (T : List Tk) (b n : Nat) (r : Tr.PT × Nat) (e : Ending) (w' : World) : Prop :=
 ∃ h, e = .returned (.pointer (some ⟨h, 0, none⟩)) ∧ Aft K g w w' ∧ Rdr w' K g gt s T b n r.2 ∧ PtF w' (fun x => ¬ K x) r.1 (.iface 114 (.pointer (some ⟨h, 0, none⟩)))
theorem PbE.old {w w' : World} {K : Nat → Prop} {g gt : Nat} {s : Bs} {T : List Tk} {b n i : Nat} {r : Tr.PT × Nat} {e : Ending} (R : Rdr w K g gt s T b n i) (h : PbE w (Old w) g gt s T b n r e w') : PbE w K g gt s T b n r e w' := by
 obtain ⟨q, h1, h2, h3, h4⟩ := h
 have hA := h2.old R.inK
 exact ⟨q, h1, hA, R.from_old h3 hA, h4.from_old R.inK⟩
section
variable {w0 w : World} {K : Nat → Prop} {g gt : Nat} {s : Bs} {T : List Tk} {b n i : Nat} {h kind at_ c : Nat} {st : Tr.St}
theorem next_st (X : Txts s T) (S : StR w0 K g gt h kind at_ s T b n i c st w) : Calls Tryz.prog 104 #[.pointer (some ⟨g, 0, none⟩)] w fun e w' => e = .returned (.int .i64 (Tr.nextP T st.2 : Int)) ∧ w' = w :=
 next_walkT S.R.rs S.R.hi (by have := X.hT; omega)
set_option maxHeartbeats 8000000 in
set_option maxRecDepth 100000 in
theorem junk_walk (X : Txts s T) (R : Rdr w K g gt s T b n i) :
  Calls Tryz.prog 152 #[.pointer (some ⟨g, 0, none⟩)] w (PbE w K g gt s T b n (Tr.junkP s T b i)) := by
 refine Calls.mono ?_ fun _ _ h => PbE.old R h
 have hbr := branch_st X R 5
 have HJ : Hid (Tr.junkP s T b i = (.branch 5 (Tr.placeP s T b i) (Tr.junksP s T b (T.length + 1) false ([], i)).1, (Tr.junksP s T b (T.length + 1) false ([], i)).2)) := rfl
 rw [HJ.out]
 clear HJ
 generalize Tr.placeP s T b i = pl at *
 generalize hJ : Tr.junksP s T b (T.length + 1) false ([], i) = J
 have HJ := Lib.hid hJ
 clear hJ R
 obtain ⟨h, hh⟩ : ∃ x, x = w.heap.size := ⟨_, rfl⟩
 rw [← hh] at hbr
 clear hh
 go_enter Tryz.func152, Tryz.ntmps152
 go_wp2_with fail
 refine hbr.mono ?_
 clear hbr
 rintro e1 w1 ⟨rfl, -, -, S⟩
 go_wp2_with fail
 go_loopg [4] (T.length - i) (fun q v wr => ∃ (last : Bool) (y : Tr.St), v = .bool last ∧ T.length - y.2 ≤ q ∧ Hid (Tr.junksP s T b (T.length + 1) last y = J) ∧ StR w (Old w) g gt h 5 pl s T b n i 0 y wr)
 case atStart => exact ⟨false, ([], i), rfl, Nat.le_refl _, HJ, S⟩
 case round =>
  clear S HJ
  obtain ⟨last, y, rfl, hq, HJ, S⟩ := hrel
  have hyT := S.ok.2.1
  have Hstop : Hid (¬ (last = false ∧ Tr.nextP T y.2 < T.length ∧ Tr.startP s T y.2 = false) → y = J) := fun h => by rw [← Tr.junks_stop s T b last y h]; exact HJ.out
  cases last with
  | true =>
   have hj := Hstop.out (fun h => by simp at h)
   clear Hstop HJ
   subst hj
   have hS := fun m => S.below (below_drewN (Below.refl wr.heap.size wr) m)
   clear S
   go_wp2_with fail
   go_quiet (fail)
   go_wp2_with fail
   go_ret
   exact ⟨h, rfl, (hS _).A, (hS _).R, (hS _).B.part⟩
  | false =>
  have hS := fun m => S.below (below_drewN (Below.refl wr.heap.size wr) m)
  have hnx := fun m => next_st X (hS m)
  have Hstep : Hid (Tr.nextP T y.2 < T.length → Tr.startP s T y.2 = false → Tr.junksP s T b (T.length + 1) (Tr.isP s T [[59]] y.2) (Tr.thn y (Tr.takeP s T b)) = J ∧ y.2 < (Tr.thn y (Tr.takeP s T b)).2) := fun h1 h2 => ⟨by rw [← Tr.junks_step s T b false y hyT ⟨rfl, h1, h2⟩]; exact HJ.out, (Tr.take_st s T b y hyT h1).1⟩
  clear HJ
  obtain ⟨g0, _, _, _⟩ := S.R.rs.cells
  obtain ⟨d, A, cA, t0, t1, d0, hrow⟩ := S.R.rs.tr.cells
  clear hrow t0 d0
  by_cases hlt : Tr.nextP T y.2 < T.length
  ·have hstart := fun m => is_lit X (hS m).R [Tr.sUse, Tr.sPub, Tr.sDef] (by simp) 3
   have i1 : ((Tr.nextP T y.2 : Nat) : Int) < (T.length : Int) := by omega
   have Hlt := Lib.hid hlt
   have e3 : Hid (Tr.isP s T [Tr.sUse, Tr.sPub, Tr.sDef] y.2 = Tr.startP s T y.2) := rfl
   clear hlt
   generalize Tr.nextP T y.2 = nx at *
   generalize hsv : Tr.isP s T [Tr.sUse, Tr.sPub, Tr.sDef] y.2 = sv at *
   have hgl := S.R.rs.rd.lt
   have hgtl := World.block_lt_of_cell? wr ⟨gt, 0 + 1, none⟩ t1
   have hSb := fun w' (hb : Below wr.heap.size wr w') => S.below hb
   clear S
   go_upto_region 3 with fail
   go_cut [27] (fun v wc => v = .bool (!sv) ∧ StR w (Old w) g gt h 5 pl s T b n i 0 y wc)
   case first =>
    have his : Calls Tryz.prog 150 #[.pointer (some ⟨g, 0, none⟩), .slice (some ⟨wr.heap.size, 0, none⟩) 3 3] ((wr.drew).alloc (.cells #[.string ⟨#[117, 115, 101]⟩, .string ⟨#[112, 117, 98]⟩, .string ⟨#[100, 101, 102]⟩] 9)) fun e w' => e = .returned (.bool sv) ∧ Below wr.heap.size wr w' := (hstart 1).mono fun _ _ h => ⟨h.1, (below_drewN (Below.refl _ _) 1).trans (h.2.mono (Nat.le_refl _))⟩
    have hnx1 := hnx 1
    clear hstart Hstep Hstop hsv e3 hnx
    go_region_held3 (fun w' => w'.cell? ⟨g, 0, none⟩ = some (.pointer (some ⟨gt, 0, none⟩)) ∧ w'.cell? ⟨gt, 1, none⟩ = some (.slice A T.length cA)) (first | (go_keep; done) | exact ⟨(hbw.cell (p := ⟨g, 0, none⟩) hgl).trans g0, (hbw.cell (p := ⟨gt, 1, none⟩) hgtl).trans t1⟩) ((first | (go_at_call 104; refine (show Calls _ _ _ (World.drew wr) _ from hnx1).mono ?_; rintro e w2 ⟨rfl, rfl⟩) | (go_at_call 150; refine his.mono ?_; rintro e w2 ⟨rfl, hbw⟩)))
    all_goals (go_wp2_with fail; go_meet; exact ⟨rfl, hSb _ hbw⟩)
   case rest =>
   obtain ⟨rfl, S⟩ := hcut
   clear hstart hnx hS hSb g0 t1 hgl hgtl
   cases sv with
   | true =>
    have hj := Hstop.out (fun h => by rw [← e3.out] at h; simp at h)
    clear Hstop Hstep e3 hsv
    subst hj
    go_wp2_with fail
    go_ret
    exact ⟨h, rfl, S.A, S.R, S.B.part⟩
   | false =>
    obtain ⟨hst, hgt⟩ := Hstep.out Hlt.out e3.out.symm
    have Hst := Lib.hid hst
    have Hgt := Lib.hid hgt
    clear Hstop Hstep e3 hsv hst hgt
    have his := is_st1 X S [59]
    clear S
    generalize Tr.isP s T [[59]] y.2 = l2 at *
    go_wp2_with fail
    refine his.mono ?_
    clear his
    rintro e1 w3 ⟨rfl, S⟩
    have htk := take_st X S (by omega)
    clear S
    go_wp2_with fail
    refine htk.mono ?_
    clear htk
    rintro e1 w4 ⟨rfl, S⟩
    go_wp2_with fail
    go_roundg (T.length - (Tr.thn y (Tr.takeP s T b)).2)
    case rel => exact ⟨l2, _, rfl, Nat.le_refl _, Hst, S⟩
    case measure => have := Hgt.out; have := S.ok.2.1; omega
  ·have hj := Hstop.out (fun h => hlt h.2.1)
   have i1 : ¬ ((Tr.nextP T y.2 : Nat) : Int) < (T.length : Int) := by omega
   have i2 : decide (Tr.nextP T y.2 < T.length) = false := by simpa using hlt
   clear Hstop Hstep S
   subst hj
   generalize Tr.nextP T y.2 = nx at *
   clear hlt
   go_wp2_with fail
   go_quiet ((go_at_call 104; exact Calls.quiet_of_same (hnx _)))
   go_wp2_with fail
   go_ret
   exact ⟨h, rfl, (hS _).A, (hS _).R, (hS _).B.part⟩
set_option maxHeartbeats 8000000 in
set_option maxRecDepth 100000 in
theorem item_walk (X : Txts s T) (R : Rdr w K g gt s T b 0 i) :
  Calls Tryz.prog 151 #[.pointer (some ⟨g, 0, none⟩)] w (PbE w K g gt s T b 0 (Tr.itemP s T b i)) := by
 refine Calls.mono ?_ fun _ _ h => PbE.old R h
 have hbr := branch_st X R 4
 have HP : Hid (Tr.itemP s T b i = if Tr.isP s T [Tr.sUse] (Tr.pubP s T b i).2 then Tr.brP s T b 3 i (Tr.useP s T b (Tr.pubP s T b i)) else Tr.brP s T b 4 i (Tr.defP s T b (Tr.pubP s T b i))) := rfl
 generalize Tr.itemP s T b i = r at *
 have hfin : ∀ (w8 : World) (hp0 k c : Nat) (st : Tr.St) (e' : Ending), e' = .returned (.pointer (some ⟨hp0, 0, none⟩)) → StR w (Old w) g gt hp0 k (Tr.placeP s T b i) s T b 0 i c st w8 → r = Tr.brP s T b k i st → PbE w (Old w) g gt s T b 0 r e' w8 := fun w8 hp0 k c st e' he S hr => by
  rw [hr]
  exact ⟨hp0, he, S.A, S.R, S.B.part⟩
 generalize Tr.placeP s T b i = pl at *
 obtain ⟨hp0, hhp0⟩ : ∃ x, x = w.heap.size := ⟨_, rfl⟩
 rw [← hhp0] at hbr
 clear hhp0 R
 go_enter Tryz.func151, Tryz.ntmps151
 go_wp2_with fail
 refine hbr.mono ?_
 clear hbr
 rintro e1 w1 ⟨rfl, -, -, S⟩
 have his := is_st1 X S Tr.sPub
 clear S
 have Hpt : Hid (Tr.isP s T [Tr.sPub] i = true → Tr.thn ([], i) (Tr.takeP s T b) = Tr.pubP s T b i) := fun h => by unfold Tr.pubP; rw [if_pos h, thn_nil]
 have Hpf : Hid (Tr.isP s T [Tr.sPub] i = false → ([], i) = Tr.pubP s T b i) := fun h => by unfold Tr.pubP; rw [if_neg (by rw [h]; simp)]
 generalize Tr.pubP s T b i = pb at *
 dsimp only at his
 generalize Tr.isP s T [Tr.sPub] i = v1 at *
 go_wp2_with fail
 refine his.mono ?_
 clear his
 rintro e1 w4 ⟨rfl, S⟩
 go_upto_if 8 with fail
 go_cut [8] (fun _ wc => StR w (Old w) g gt hp0 4 pl s T b 0 i 0 pb wc)
 case first =>
  cases v1 with
  | true =>
   have h := Hpt.out rfl
   have htk := take_st X S (by omega)
   rw [h] at htk
   clear S Hpt Hpf h
   go_wp2_with fail
   refine htk.mono ?_
   clear htk
   rintro e1 w5 ⟨rfl, S⟩
   go_wp2_with fail
   go_meet
   exact S
  | false =>
   have h := Hpf.out rfl
   rw [h] at S
   clear Hpt Hpf h
   go_wp2_with fail
   go_meet
   exact S
 case rest =>
 clear S Hpt Hpf
 have S := hcut
 clear hcut
 have his := is_st1 X S Tr.sUse
 clear S
 generalize Tr.isP s T [Tr.sUse] pb.2 = v2 at *
 go_wp2_with fail
 refine his.mono ?_
 clear his
 rintro e1 w5 ⟨rfl, S⟩
 cases v2 with
 | true =>
  have HV2 : Hid (r = Tr.brP s T b 3 i (Tr.useP s T b pb)) := by show _ = _; rw [HP.out]; rfl
  clear HP
  obtain ⟨A, c, vs, hb⟩ := S.B
  have z0 := hb.blk.cell 0
  have zf := hb.blk.frozen 0
  simp at z0
  have S := StR.kind S 3
  clear hb
  go_upto_region 6 with fail
  have S : StR w (Old w) g gt hp0 3 pl s T b 0 i 0 pb (w5.setCell ⟨hp0, 0, none⟩ (.int .i64 3)) := S
  clear z0 zf
  generalize w5.setCell ⟨hp0, 0, none⟩ (.int .i64 3) = w6 at *
  have htk := want_st X S Tr.sUse (by omega)
  clear S
  go_wp2_with fail
  refine htk.mono ?_
  clear htk
  rintro e1 w7 ⟨rfl, S⟩
  have htk := name_st X S (by omega)
  clear S
  go_wp2_with fail
  refine htk.mono ?_
  clear htk
  rintro e1 w8 ⟨rfl, S⟩
  have htk := want_st X S [46] (by omega)
  clear S
  go_wp2_with fail
  refine htk.mono ?_
  clear htk
  rintro e1 w9 ⟨rfl, S⟩
  have htk := name_st X S (by omega)
  clear S
  go_wp2_with fail
  refine htk.mono ?_
  clear htk
  rintro e1 w10 ⟨rfl, S⟩
  have HU : Hid (Tr.useP s T b pb = Tr.thn (if Tr.isP s T [Tr.sAs] (Tr.thn (Tr.thn (Tr.thn (Tr.thn pb (Tr.wantP s T b Tr.sUse)) (Tr.nameP s T b)) (Tr.wantP s T b [46])) (Tr.nameP s T b)).2 then Tr.thn (Tr.thn (Tr.thn (Tr.thn (Tr.thn (Tr.thn pb (Tr.wantP s T b Tr.sUse)) (Tr.nameP s T b)) (Tr.wantP s T b [46])) (Tr.nameP s T b)) (Tr.takeP s T b)) (Tr.nameP s T b) else (Tr.thn (Tr.thn (Tr.thn (Tr.thn pb (Tr.wantP s T b Tr.sUse)) (Tr.nameP s T b)) (Tr.wantP s T b [46])) (Tr.nameP s T b))) (Tr.wantP s T b [59])) := rfl
  generalize (Tr.thn (Tr.thn (Tr.thn (Tr.thn pb (Tr.wantP s T b Tr.sUse)) (Tr.nameP s T b)) (Tr.wantP s T b [46])) (Tr.nameP s T b)) = u at *
  have Hut : Hid (Tr.isP s T [Tr.sAs] u.2 = true → Tr.thn (Tr.thn u (Tr.takeP s T b)) (Tr.nameP s T b) = (if Tr.isP s T [Tr.sAs] u.2 then Tr.thn (Tr.thn u (Tr.takeP s T b)) (Tr.nameP s T b) else u)) := fun h => by rw [if_pos h]
  have Huf : Hid (Tr.isP s T [Tr.sAs] u.2 = false → u = (if Tr.isP s T [Tr.sAs] u.2 then Tr.thn (Tr.thn u (Tr.takeP s T b)) (Tr.nameP s T b) else u)) := fun h => by rw [if_neg (by rw [h]; simp)]
  generalize (if Tr.isP s T [Tr.sAs] u.2 then Tr.thn (Tr.thn u (Tr.takeP s T b)) (Tr.nameP s T b) else u) = u2 at *
  have his := is_st1 X S Tr.sAs
  clear S
  generalize Tr.isP s T [Tr.sAs] u.2 = v3 at *
  go_wp2_with fail
  refine his.mono ?_
  clear his
  rintro e1 w11 ⟨rfl, S⟩
  go_upto_if 32 with fail
  go_cut [32] (fun _ wc => StR w (Old w) g gt hp0 3 pl s T b 0 i 100 u2 wc)
  case first =>
   cases v3 with
   | true =>
    have h := Hut.out rfl
    clear Hut Huf
    have htk := take_st X S (by omega)
    clear S
    go_wp2_with fail
    refine htk.mono ?_
    clear htk
    rintro e1 w12 ⟨rfl, S⟩
    have htk := name_st X S (by omega)
    rw [h] at htk
    clear S h
    go_wp2_with fail
    refine htk.mono ?_
    clear htk
    rintro e1 w13 ⟨rfl, S⟩
    go_wp2_with fail
    go_meet
    exact S.mono (by omega)
   | false =>
    have h := Huf.out rfl
    rw [h] at S
    clear Hut Huf h
    go_wp2_with fail
    go_meet
    exact S.mono (by omega)
  case rest =>
  clear S Hut Huf
  have S := hcut
  clear hcut
  have htk := want_st X S [59] (by omega)
  clear S
  go_wp2_with fail
  refine htk.mono ?_
  clear htk
  rintro e1 w12 ⟨rfl, S⟩
  rw [← HU.out] at S
  go_wp2_with fail
  go_ret
  exact hfin _ hp0 3 _ _ _ rfl S HV2.out
 | false =>
  have HV2 : Hid (r = Tr.brP s T b 4 i (Tr.defP s T b pb)) := by show _ = _; rw [HP.out]; rfl
  clear HP
  have htk := want_st X S Tr.sDef (by omega)
  clear S
  go_wp2_with fail
  refine htk.mono ?_
  clear htk
  rintro e1 w7 ⟨rfl, S⟩
  have htk := name_st X S (by omega)
  clear S
  go_wp2_with fail
  refine htk.mono ?_
  clear htk
  rintro e1 w8 ⟨rfl, S⟩
  have HU : Hid (Tr.defP s T b pb = Tr.thn (Tr.thn (Tr.thn (if Tr.isP s T [[40]] (Tr.thn (Tr.thn pb (Tr.wantP s T b Tr.sDef)) (Tr.nameP s T b)).2 then Tr.thn (Tr.thn (Tr.thn pb (Tr.wantP s T b Tr.sDef)) (Tr.nameP s T b)) (fun i => Tr.oneP (Tr.paramsP s T b i)) else (Tr.thn (Tr.thn pb (Tr.wantP s T b Tr.sDef)) (Tr.nameP s T b))) (Tr.wantP s T b [61])) (fun i => Tr.oneP (Tr.exprP s T b 65 i))) (Tr.wantP s T b [59])) := rfl
  generalize (Tr.thn (Tr.thn pb (Tr.wantP s T b Tr.sDef)) (Tr.nameP s T b)) = u at *
  have Hut : Hid (Tr.isP s T [[40]] u.2 = true → Tr.thn u (fun i => Tr.oneP (Tr.paramsP s T b i)) = (if Tr.isP s T [[40]] u.2 then Tr.thn u (fun i => Tr.oneP (Tr.paramsP s T b i)) else u)) := fun h => by rw [if_pos h]
  have Huf : Hid (Tr.isP s T [[40]] u.2 = false → u = (if Tr.isP s T [[40]] u.2 then Tr.thn u (fun i => Tr.oneP (Tr.paramsP s T b i)) else u)) := fun h => by rw [if_neg (by rw [h]; simp)]
  generalize (if Tr.isP s T [[40]] u.2 then Tr.thn u (fun i => Tr.oneP (Tr.paramsP s T b i)) else u) = u2 at *
  have his := is_st1 X S [40]
  clear S
  generalize Tr.isP s T [[40]] u.2 = v3 at *
  go_wp2_with fail
  refine his.mono ?_
  clear his
  rintro e1 w11 ⟨rfl, S⟩
  go_upto_if 51 with fail
  go_cut [51] (fun _ wc => StR w (Old w) g gt hp0 4 pl s T b 0 i 100 u2 wc)
  case first =>
   cases v3 with
   | true =>
    have h := Hut.out rfl
    clear Hut Huf
    have htk := params_st X S (by omega)
    rw [h] at htk
    clear S h
    go_wp2_with fail
    refine htk.mono ?_
    clear htk
    rintro e1 w13 ⟨rfl, S⟩
    go_wp2_with fail
    go_meet
    exact S.mono (by omega)
   | false =>
    have h := Huf.out rfl
    rw [h] at S
    clear Hut Huf h
    go_wp2_with fail
    go_meet
    exact S.mono (by omega)
  case rest =>
  clear S Hut Huf
  have S := hcut
  clear hcut
  have htk := want_st X S [61] (by omega)
  clear S
  go_wp2_with fail
  refine htk.mono ?_
  clear htk
  rintro e1 w12 ⟨rfl, S⟩
  have htk := expr_st X (expr_all X 65 0 (by omega)) S (by omega)
  clear S
  go_wp2_with fail
  refine htk.mono ?_
  clear htk
  rintro e1 w13 ⟨rfl, S⟩
  have htk := want_st X S [59] (by omega)
  clear S
  go_wp2_with fail
  refine htk.mono ?_
  clear htk
  rintro e1 w14 ⟨rfl, S⟩
  rw [← HU.out] at S
  go_wp2_with fail
  go_ret
  exact hfin _ hp0 4 _ _ _ rfl S HV2.out
end
section
variable {w0 w : World} {K : Nat → Prop} {g gt : Nat} {s : Bs} {T : List Tk} {b n i : Nat}
theorem Rdr.base (h : Rdr w K g gt s T b n i) {b' : Nat} (hb : b' ≤ Tr.absP s T i) : Rdr (w.setCell ⟨g, 2, none⟩ (.int .i64 (b' : Int))) K g gt s T b' n i := by
 have h1 := (h.rs.rd.set_ 2 (.int .i64 (b' : Int)))
 simp at h1
 have ha : Aft K g w (w.setCell ⟨g, 2, none⟩ (.int .i64 (b' : Int))) := (Aft.refl K g w).set 2 _
 exact ⟨⟨h1, h.rs.tr.aft ha⟩, h.inK.after ha.size, h.hi, hb⟩
theorem four_kept {w : World} {K : Nat → Prop} {kb : Nat} (hK : ∀ x, K x → x ≠ kb) (a b c d : Value) : Kept K w ((((w.setCell ⟨kb, 0, none⟩ a).setCell ⟨kb, 1, none⟩ b).setCell ⟨kb, 2, none⟩ c).setCell ⟨kb, 3, none⟩ d) := by
 refine ⟨by simp [World.setCell], fun x hx => ?_, (((Calm.set w ⟨kb, 0, none⟩ a).trans (Calm.set _ ⟨kb, 1, none⟩ b)).trans (Calm.set _ ⟨kb, 2, none⟩ c)).trans (Calm.set _ ⟨kb, 3, none⟩ d)⟩
 have hx := hK x hx
 exact (((Below.heap_setCell _ ⟨kb, 3, none⟩ d x hx).trans (Below.heap_setCell _ ⟨kb, 2, none⟩ c x hx)).trans (Below.heap_setCell _ ⟨kb, 1, none⟩ b x hx)).trans (Below.heap_setCell _ ⟨kb, 0, none⟩ a x hx)
theorem Rdr.from_any {w' : World} {K' : Nat → Prop} {b' i' n' : Nat} (R : Rdr w K g gt s T b n i) (R' : Rdr w' K' g gt s T b' n' i') (ha : Aft K g w w') : Rdr w' K g gt s T b' n' i' :=
 ⟨⟨R'.rs.rd, R.rs.tr.aft ha⟩, R.inK.after ha.size, R'.hi, R'.hb⟩
def KdE (w : World) (K : Nat → Prop) (g gt : Nat) (s : Bs) (T : List Tk) (i : Nat) (e : Ending) (w' : World) : Prop :=
 ∃ h, e = .returned (.agg #[.pointer (some ⟨h, 0, none⟩), .int .i64 (Tr.absP s T i : Int), .int .i64 (i : Int), .int .i64 ((Tr.kidP s T i).2 : Int)]) ∧ Aft K g w w' ∧ Rdr w' K g gt s T (Tr.absP s T i) 0 (Tr.kidP s T i).2 ∧ PtF w' (fun x => ¬ K x) (Tr.kidP s T i).1 (.iface 114 (.pointer (some ⟨h, 0, none⟩)))
set_option maxHeartbeats 8000000 in
set_option maxRecDepth 100000 in
theorem kid_walk (X : Txts s T) (R : Rdr w K g gt s T b n i) :
  Calls Tryz.prog 105 #[.pointer (some ⟨g, 0, none⟩)] w (KdE w K g gt s T i) := by
 have hd0 : Below w.heap.size w (w.alloc (.cells #[.pointer none, .int .i64 0, .int .i64 0, .int .i64 0] 116)) := (Below.refl _ _).alloc (Nat.le_refl _) _
 have hK0 := R.inK
 have hR0 := R
 have hkb : Blk (w.alloc (.cells #[.pointer none, .int .i64 0, .int .i64 0, .int .i64 0] 116)) w.heap.size 116 #[.pointer none, .int .i64 0, .int .i64 0, .int .i64 0] := Blk.new _ _ _
 have R := (R.below hd0).old
 have hA := Kept.aft (Kept.below hd0 hK0) g
 obtain ⟨kb, hkb0⟩ : ∃ x, x = w.heap.size := ⟨_, rfl⟩
 rw [← hkb0] at hkb
 have hkg : kb ≠ g := by have := hR0.rs.rd.lt; omega
 have HKb : Hid (∀ x, K x → x ≠ kb) := fun x hx e => by have := hK0 x hx; omega
 go_enter Tryz.func105, Tryz.ntmps105
 go_upto_region 1 with fail
 rw [← hkb0]
 clear hkb0 hd0
 generalize w.alloc (.cells #[.pointer none, .int .i64 0, .int .i64 0, .int .i64 0] 116) = w1 at *
 obtain ⟨g0, g1, g2, g3⟩ := R.rs.cells
 have f2 := R.rs.rd.frozen 2
 have f3 := R.rs.rd.frozen 3
 have hA2 := ((Aft.refl (Old w1) g w1).set 2 (.int .i64 (0 : Int))).set 3 (.int .i64 (0 : Int))
 have R2 := (R.base (Nat.zero_le _)).nest 0
 go_upto_region 3 with fail
 have R2 : Rdr ((w1.setCell ⟨g, 2, none⟩ (.int .i64 (0 : Int))).setCell ⟨g, 3, none⟩ (.int .i64 (0 : Int))) (Old w1) g gt s T 0 0 i := R2
 clear g0 g1 g2 g3 f2 f3
 generalize (w1.setCell ⟨g, 2, none⟩ (.int .i64 (0 : Int))).setCell ⟨g, 3, none⟩ (.int .i64 (0 : Int)) = w2 at *
 have hpl := place_walk R2.rs X.good R2.hb (by have := X.hs; omega)
 have hp0 : Tr.placeP s T 0 i = Tr.absP s T i := by unfold Tr.placeP; omega
 rw [hp0] at hpl
 clear hp0
 have f2 := R2.rs.rd.frozen 2
 obtain ⟨_, _, g2, _⟩ := R2.rs.cells
 have HB : Hid (∀ m, Rdr ((w2.drewN m).setCell ⟨g, 2, none⟩ (.int .i64 (Tr.absP s T i : Int))) (Old w1) g gt s T (Tr.absP s T i) 0 i) := fun m => (R2.drewN m).base (Nat.le_refl _)
 obtain ⟨b1, hb1⟩ : ∃ b1, b1 = Tr.absP s T i := ⟨_, rfl⟩
 rw [← hb1] at hpl HB
 have HK1 : Hid (Tr.startP s T i = true → Tr.kidP s T i = Tr.itemP s T b1 i) := fun h => by unfold Tr.kidP; rw [if_pos h, hb1]
 have HK0 : Hid (Tr.startP s T i = false → Tr.kidP s T i = Tr.junkP s T b1 i) := fun h => by unfold Tr.kidP; rw [if_neg (by rw [h]; simp), hb1]
 have HE : Hid (∀ e w', (∃ h, e = .returned (.agg #[.pointer (some ⟨h, 0, none⟩), .int .i64 (b1 : Int), .int .i64 (i : Int), .int .i64 ((Tr.kidP s T i).2 : Int)]) ∧ Aft K g w w' ∧ Rdr w' K g gt s T b1 0 (Tr.kidP s T i).2 ∧ PtF w' (fun x => ¬ K x) (Tr.kidP s T i).1 (.iface 114 (.pointer (some ⟨h, 0, none⟩)))) → KdE w K g gt s T i e w') := fun e w' h => by rw [hb1] at h; exact h
 clear hb1
 generalize hr : Tr.kidP s T i = r at *
 go_wp2_with fail
 refine hpl.mono ?_
 clear hpl
 rintro e w3 ⟨rfl, m, rfl⟩
 have hA3 := (hA2.drewN m).set 2 (.int .i64 (b1 : Int))
 have R3 := HB.out m
 go_upto_region 5 with fail
 clear g2 f2 hA2 R2 HB R
 generalize (w2.drewN m).setCell ⟨g, 2, none⟩ (.int .i64 (b1 : Int)) = w4 at *
 have his : Calls Tryz.prog 150 #[.pointer (some ⟨g, 0, none⟩), .slice (some ⟨w4.heap.size, 0, none⟩) 3 3] (w4.alloc (.cells #[.string ⟨#[117, 115, 101]⟩, .string ⟨#[112, 117, 98]⟩, .string ⟨#[100, 101, 102]⟩] 9)) fun e w' => e = .returned (.bool (Tr.startP s T i)) ∧ Below w4.heap.size w4 w' := is_lit X R3 [Tr.sUse, Tr.sPub, Tr.sDef] (by simp) 3
 generalize Tr.startP s T i = v at *
 go_wp2_with fail
 refine his.mono ?_
 clear his
 rintro e w5 ⟨rfl, hd5⟩
 have hA5 := hA3.trans (Kept.aft (Kept.below hd5 R3.inK) g)
 have R5 := R3.below hd5
 clear hA3 R3 hd5
 have hend : ∀ (w6 : World) (h : Nat), Aft (Old w1) g w5 w6 → Rdr w6 (Old w1) g gt s T b1 0 r.2 → PtF w6 (fun x => ¬ Old w1 x) r.1 (.iface 114 (.pointer (some ⟨h, 0, none⟩))) → Blk w6 kb 116 #[.pointer none, .int .i64 0, .int .i64 0, .int .i64 0] := fun w6 h h1 h2 h3 => hkb.aft (hA5.trans h1) hkb.lt hkg
 go_upto_if 22 with fail
 go_cut [4] (fun z wc => ∃ h, z = .pointer (some ⟨h, 0, none⟩) ∧ Aft (Old w1) g w5 wc ∧ Rdr wc (Old w1) g gt s T b1 0 r.2 ∧ PtF wc (fun x => ¬ Old w1 x) r.1 (.iface 114 (.pointer (some ⟨h, 0, none⟩))))
 case first =>
  cases v with
  | true =>
   have hV := HK1.out rfl
   have hit := item_walk X R5
   rw [← hV] at hit
   clear HK1 HK0 hV
   go_wp2_with fail
   refine hit.mono ?_
   clear hit
   intro e w6 h6
   obtain ⟨h, rfl, h1, h2, h3⟩ := h6
   go_wp2_with fail
   go_meet
   exact ⟨h, rfl, h1, h2, h3⟩
  | false =>
   have hV := HK0.out rfl
   have hit := junk_walk X R5
   rw [← hV] at hit
   clear HK1 HK0 hV
   go_wp2_with fail
   refine hit.mono ?_
   clear hit
   intro e w6 h6
   obtain ⟨h, rfl, h1, h2, h3⟩ := h6
   go_wp2_with fail
   go_meet
   exact ⟨h, rfl, h1, h2, h3⟩
 case rest =>
 clear HK1 HK0
 obtain ⟨h, rfl, h1, h2, h3⟩ := hcut
 have hk := hend _ h h1 h2 h3
 obtain ⟨g0, g1, g2, g3⟩ := h2.rs.cells
 have hA6 := hA5.trans h1
 clear hend R5 hA5 h1
 go_wp2_with fail
 go_still_tail 11, (by kernel_rfl)
 change wpList _ _ _ _ _ wc.drew
 have hk := hk.drew
 have h2 := h2.drewN 1
 have hA6 := hA6.drew
 have h3 : PtF wc.drew (fun x => ¬ Old w1 x) r.1 (.iface 114 (.pointer (some ⟨h, 0, none⟩))) := PtF.keep (w := wc) (w' := wc.drew) (show wc.heap.size ≤ wc.drew.heap.size from Nat.le_refl _) (fun _ hF _ => ⟨rfl, hF⟩) _ _ h3
 have h2 : Rdr wc.drew (Old w1) g gt s T b1 0 r.2 := h2
 clear g0 g1 g2 g3
 generalize wc.drew = w7 at *
 have k0 := hk.cell 0
 have k1 := hk.cell 1
 have k2 := hk.cell 2
 have k3 := hk.cell 3
 simp at k0 k1 k2 k3
 have y0 := hk.frozen 0
 have y1 := hk.frozen 1
 have y2 := hk.frozen 2
 have y3 := hk.frozen 3
 go_wp2_with fail
 have hk8 := (((hk.set_ 0 (.pointer (some ⟨h, 0, none⟩))).set_ 1 (.int .i64 (b1 : Int))).set_ 2 (.int .i64 (i : Int))).set_ 3 (.int .i64 (r.2 : Int))
 simp at hk8
 have hAK := hA.trans (hA6.old (hK0.after hA.size))
 have hKe : Kept K w7 ((((w7.setCell ⟨kb, 0, none⟩ (.pointer (some ⟨h, 0, none⟩))).setCell ⟨kb, 1, none⟩ (.int .i64 (b1 : Int))).setCell ⟨kb, 2, none⟩ (.int .i64 (i : Int))).setCell ⟨kb, 3, none⟩ (.int .i64 (r.2 : Int))) := four_kept HKb.out _ _ _ _
 have hol : ∀ x, x ≠ kb → ((((w7.setCell ⟨kb, 0, none⟩ (.pointer (some ⟨h, 0, none⟩))).setCell ⟨kb, 1, none⟩ (.int .i64 (b1 : Int))).setCell ⟨kb, 2, none⟩ (.int .i64 (i : Int))).setCell ⟨kb, 3, none⟩ (.int .i64 (r.2 : Int))).heap[x]? = w7.heap[x]? := fun x hx => (four_kept (K := fun y => y ≠ kb) (fun _ h => h) _ _ _ _).same x hx
 have hR8 := (hR0.from_any h2 hAK).kept hKe
 have hkl := hkb.lt
 have hp8 := PtF.keep (F' := fun x => ¬ K x) hKe.size (fun x hF _ => ⟨hol x (fun e => hF (by rw [e]; exact hkl)), fun hx => hF (Nat.lt_of_lt_of_le (hK0 x hx) hA.size)⟩) _ _ h3
 clear h2 h3 hA6 k0 k1 k2 k3 y0 y1 y2 y3 hk hol
 generalize ((((w7.setCell ⟨kb, 0, none⟩ (.pointer (some ⟨h, 0, none⟩))).setCell ⟨kb, 1, none⟩ (.int .i64 (b1 : Int))).setCell ⟨kb, 2, none⟩ (.int .i64 (i : Int))).setCell ⟨kb, 3, none⟩ (.int .i64 (r.2 : Int))) = w8 at *
 have k0 := hk8.cell 0
 have k1 := hk8.cell 1
 have k2 := hk8.cell 2
 have k3 := hk8.cell 3
 simp at k0 k1 k2 k3
 (try simp only [Exit.inBlock, Exit.then])
 refine bodyPost_ret (v := .agg #[.pointer (some ⟨h, 0, none⟩), .int .i64 (b1 : Int), .int .i64 (i : Int), .int .i64 (r.2 : Int)]) (by simp [results, Tryz.results105, go_sem, k0, k1, k2, k3]; try rfl) rfl ?_
 exact HE.out _ _ ⟨h, rfl, hAK.trans (hKe.aft g), hR8, hp8⟩
end
def KdsF (w : World) (F : Nat → Prop) : List Tr.Kd → List Value → Prop
 | [], vs => vs = []
 | k :: l, vs => ∃ h vs', vs = .pointer (some ⟨h, 0, none⟩) :: .int .i64 (k.base : Int) :: .int .i64 (k.first : Int) :: .int .i64 (k.last : Int) :: vs' ∧ PtF w F k.part (.iface 114 (.pointer (some ⟨h, 0, none⟩))) ∧ KdsF w F l vs'
section
variable {w w' : World} {F F' : Nat → Prop}
theorem KdsF.keep (hs : w.heap.size ≤ w'.heap.size) (hk : ∀ b, F b → b < w.heap.size → w'.heap[b]? = w.heap[b]? ∧ F' b) : ∀ (l : List Tr.Kd) (vs : List Value), KdsF w F l vs → KdsF w' F' l vs
 | [], vs, h => h
 | k :: l, vs, h => by
  obtain ⟨q, vs', e, hp, hl⟩ := h
  exact ⟨q, vs', e, PtF.keep hs hk _ _ hp, KdsF.keep hs hk l vs' hl⟩
theorem KdsF.len : ∀ {l : List Tr.Kd} {vs : List Value}, KdsF w F l vs → vs.length = l.length * 4
 | [], vs, h => by have : vs = [] := h; subst this; rfl
 | k :: l, vs, h => by
  obtain ⟨q, vs', rfl, hp, hl⟩ := h
  have := KdsF.len hl
  simp only [List.length_cons]
  omega
theorem KdsF.snoc : ∀ {l : List Tr.Kd} {vs : List Value} {k : Tr.Kd} {h : Nat}, KdsF w F l vs → PtF w F k.part (.iface 114 (.pointer (some ⟨h, 0, none⟩))) → KdsF w F (l ++ [k]) (vs ++ [.pointer (some ⟨h, 0, none⟩), .int .i64 (k.base : Int), .int .i64 (k.first : Int), .int .i64 (k.last : Int)])
 | [], vs, k, h, hl, hp => by
  have : vs = [] := hl
  subst this
  exact ⟨h, [], rfl, hp, rfl⟩
 | k' :: l, vs, k, h, hl, hp => by
  obtain ⟨q, vs', rfl, hp', hl'⟩ := hl
  exact ⟨q, _, rfl, hp', KdsF.snoc hl' hp⟩
theorem KdsF.at_ : ∀ {l : List Tr.Kd} {vs : List Value} {i : Nat}, KdsF w F l vs → ∀ (h : i < l.length), ∃ q, vs[i * 4]? = some (.pointer (some ⟨q, 0, none⟩)) ∧ vs[i * 4 + 1]? = some (.int .i64 (l[i].base : Int)) ∧ vs[i * 4 + 2]? = some (.int .i64 (l[i].first : Int)) ∧ vs[i * 4 + 3]? = some (.int .i64 (l[i].last : Int)) ∧ PtF w F l[i].part (.iface 114 (.pointer (some ⟨q, 0, none⟩)))
 | [], _, _, _, h => absurd h (by simp)
 | k :: l, vs, 0, hp, _ => by
  obtain ⟨q, vs', rfl, h, _⟩ := hp
  exact ⟨q, rfl, rfl, rfl, rfl, h⟩
 | k :: l, vs, i + 1, hp, h => by
  obtain ⟨q, vs', rfl, _, hl⟩ := hp
  obtain ⟨q', h0, h1, h2, h3, h4⟩ := KdsF.at_ (i := i) hl (by simpa using h)
  exact ⟨q', by rw [Nat.succ_mul]; exact h0, by rw [Nat.succ_mul]; exact h1, by rw [Nat.succ_mul]; exact h2, by rw [Nat.succ_mul]; exact h3, h4⟩
end
structure OTr (w : World) (K : Nat → Prop) (gt d : Nat) (A : Option Addr) (n c : Nat) (ks : List Tr.Kd) (Av : Option Addr) (cv : Nat) (vs : List Value) (ts : List Tr.PT) (At : Option Addr) (ct : Nat) (us : List Value) : Prop where
 blk : Blk w gt 131 #[.pointer (some ⟨d, 0, none⟩), .slice A n c, .slice Av ks.length cv, .slice At ts.length ct]
 ownk : w.ownsRow 0 116 4 (.slice Av ks.length cv) ks.length vs
 ownt : w.ownsRow 0 122 1 (.slice At ts.length ct) ts.length us
 nrk : ∀ q, (Value.slice Av ks.length cv).ownBlock = some q → ¬ K q
 nrt : ∀ q, (Value.slice At ts.length ct).ownBlock = some q → ¬ K q
 kids : KdsF w (fun x => ¬ K x ∧ some x ≠ (Value.slice Av ks.length cv).ownBlock ∧ some x ≠ (Value.slice At ts.length ct).ownBlock) ks vs
 tail : PtsF w (fun x => ¬ K x ∧ some x ≠ (Value.slice Av ks.length cv).ownBlock ∧ some x ≠ (Value.slice At ts.length ct).ownBlock) ts us
section
variable {w w' w5 : World} {K K' : Nat → Prop} {g gt d : Nat} {A : Option Addr} {n c : Nat} {ks : List Tr.Kd} {Av : Option Addr} {cv : Nat} {vs : List Value} {ts : List Tr.PT} {At : Option Addr} {ct : Nat} {us : List Value}
theorem OTr.aft (h : OTr w K gt d A n c ks Av cv vs ts At ct us) (ha : Aft (Old w) g w w') (hg : K g) (hgt : gt ≠ g) : OTr w' K gt d A n c ks Av cv vs ts At ct us := by
 have hne : ∀ x, ¬ K x → x ≠ g := fun x hx e => hx (e ▸ hg)
 exact ⟨h.blk.aft ha h.blk.lt hgt, own_of_block h.ownk fun q hq => ha.oth q (h.ownk.lt q hq).2 (hne _ (h.nrk q hq)), own_of_block h.ownt fun q hq => ha.oth q (h.ownt.lt q hq).2 (hne _ (h.nrt q hq)), h.nrk, h.nrt,
  KdsF.keep ha.size (fun b hF hl => ⟨ha.oth b hl (hne _ hF.1), hF⟩) _ _ h.kids, PtsF.keep ha.size (fun b hF hl => ⟨ha.oth b hl (hne _ hF.1), hF⟩) _ _ h.tail⟩
theorem OTr.below (h : OTr w K gt d A n c ks Av cv vs ts At ct us) (hd : Below w.heap.size w w') : OTr w' K gt d A n c ks Av cv vs ts At ct us :=
 ⟨h.blk.below hd h.blk.lt, own_of_block h.ownk fun q hq => hd.block q (h.ownk.lt q hq).2, own_of_block h.ownt fun q hq => hd.block q (h.ownt.lt q hq).2, h.nrk, h.nrt,
  KdsF.keep hd.size (fun b hF hl => ⟨hd.block b hl, hF⟩) _ _ h.kids, PtsF.keep hd.size (fun b hF hl => ⟨hd.block b hl, hF⟩) _ _ h.tail⟩
theorem OTr.ne (h : OTr w K gt d A n c ks Av cv vs ts At ct us) {q : Nat} (hk : (Value.slice Av ks.length cv).ownBlock = some q) : (Value.slice At ts.length ct).ownBlock ≠ some q := fun ht => by
 obtain ⟨cs, fr, h1⟩ := own_ty h.ownk q hk
 obtain ⟨cs2, fr2, h2⟩ := own_ty h.ownt q ht
 rw [h1] at h2; injection h2 with h2; injection h2 with _ h2 _; exact absurd h2 (by decide)
theorem OTr.kne (h : OTr w K gt d A n c ks Av cv vs ts At ct us) : some gt ≠ (Value.slice Av ks.length cv).ownBlock := own_ne h.ownk h.blk (by decide)
theorem OTr.tne (h : OTr w K gt d A n c ks Av cv vs ts At ct us) : some gt ≠ (Value.slice At ts.length ct).ownBlock := own_ne h.ownt h.blk (by decide)
theorem OTr.pushK (h : OTr w K gt d A n c ks Av cv vs ts At ct us) (hK : In K w) (hgt : K gt) {k : Tr.Kd} {q gg cap : Nat}
  (hp : PtF w (fun x => ¬ K x ∧ some x ≠ (Value.slice Av ks.length cv).ownBlock ∧ some x ≠ (Value.slice At ts.length ct).ownBlock) k.part (.iface 114 (.pointer (some ⟨q, 0, none⟩))))
  (hown : w5.ownsRow 0 116 4 (.slice (some ⟨gg, 0, none⟩) (ks.length + 1) cap) (ks.length + 1) (vs ++ [.pointer (some ⟨q, 0, none⟩), .int .i64 (k.base : Int), .int .i64 (k.first : Int), .int .i64 (k.last : Int)]))
  (hgrow : (w.alloc (.cells #[.pointer (some ⟨q, 0, none⟩), .int .i64 (k.base : Int), .int .i64 (k.first : Int), .int .i64 (k.last : Int)] 116)).grownBy w5 (Value.slice Av ks.length cv).ownBlock)
  (hat : (Value.slice Av ks.length cv).ownBlock = some gg ∨ gg = w.heap.size + 1) :
  OTr (w5.setCell ⟨gt, 2, none⟩ (.slice (some ⟨gg, 0, none⟩) (ks.length + 1) cap)) K gt d A n c (ks ++ [k]) (some ⟨gg, 0, none⟩) cap (vs ++ [.pointer (some ⟨q, 0, none⟩), .int .i64 (k.base : Int), .int .i64 (k.first : Int), .int .i64 (k.last : Int)]) ts At ct us ∧
  (∀ x, x < w.heap.size → x ≠ gt → some x ≠ (Value.slice Av ks.length cv).ownBlock → (w5.setCell ⟨gt, 2, none⟩ (.slice (some ⟨gg, 0, none⟩) (ks.length + 1) cap)).heap[x]? = w.heap[x]?) ∧ w.heap.size ≤ w5.heap.size ∧ Calm w (w5.setCell ⟨gt, 2, none⟩ (.slice (some ⟨gg, 0, none⟩) (ks.length + 1) cap)) := by
 have hz := hgrow.size
 simp at hz
 have old : ∀ x, x < w.heap.size → x ≠ gt → some x ≠ (Value.slice Av ks.length cv).ownBlock → (w5.setCell ⟨gt, 2, none⟩ (.slice (some ⟨gg, 0, none⟩) (ks.length + 1) cap)).heap[x]? = w.heap[x]? := fun x hx hh hr =>
  ((Below.heap_setCell w5 ⟨gt, 2, none⟩ _ x hh).trans (hgrow.block x (by simp; omega) hr)).trans (Below.heap_alloc w _ x hx)
 have hgk : ¬ K gg := fun hk => by
  rcases hat with e | e
  ·exact h.nrk gg e hk
  ·have := hK gg hk; omega
 have hgn : ∀ x, x < w.heap.size → some x ≠ (Value.slice Av ks.length cv).ownBlock → some x ≠ some gg := fun x hx hr e => by
  rcases hat with e' | e'
  ·exact hr (e.trans e'.symm)
  ·injection e; omega
 have hgg : gt ≠ gg := fun e => hgn gt h.blk.lt h.kne (by rw [e])
 have hlen : (ks ++ [k]).length = ks.length + 1 := by simp
 have hB5 := ((h.blk.alloc (.cells #[.pointer (some ⟨q, 0, none⟩), .int .i64 (k.base : Int), .int .i64 (k.first : Int), .int .i64 (k.last : Int)] 116)).grown hgrow h.kne).set_ 2 (.slice (some ⟨gg, 0, none⟩) (ks.length + 1) cap)
 have hsz : w5.heap.size ≤ (w5.setCell ⟨gt, 2, none⟩ (.slice (some ⟨gg, 0, none⟩) (ks.length + 1) cap)).heap.size := by simp [World.setCell]
 have hFk : ∀ x, ¬ K x ∧ some x ≠ (Value.slice Av ks.length cv).ownBlock ∧ some x ≠ (Value.slice At ts.length ct).ownBlock → x < w.heap.size → (w5.setCell ⟨gt, 2, none⟩ (.slice (some ⟨gg, 0, none⟩) (ks.length + 1) cap)).heap[x]? = w.heap[x]? ∧ ¬ K x ∧ some x ≠ some gg ∧ some x ≠ (Value.slice At ts.length ct).ownBlock :=
  fun x hF hl => ⟨old x hl (fun e => hF.1 (e ▸ hgt)) hF.2.1, hF.1, hgn x hl hF.2.1, hF.2.2⟩
 refine ⟨⟨?_, ?_, ?_, ?_, h.nrt, ?_, ?_⟩, old, by omega, ((show Calm w (w.alloc (.cells #[.pointer (some ⟨q, 0, none⟩), .int .i64 (k.base : Int), .int .i64 (k.first : Int), .int .i64 (k.last : Int)] 116)) from ⟨rfl, rfl, rfl⟩).trans ⟨hgrow.os, hgrow.tape, hgrow.output⟩).trans (Calm.set w5 _ _)⟩
 ·rw [hlen]; exact hB5
 ·rw [hlen]
  exact own_of_block hown fun y hy => Below.heap_setCell w5 ⟨gt, 2, none⟩ _ y (by simp only [Value.ownBlock, Option.some.injEq] at hy; subst hy; exact Ne.symm hgg)
 ·exact own_of_block h.ownt fun y hy => old y (h.ownt.lt y hy).2 (fun e => h.nrt y hy (e ▸ hgt)) (fun e => h.ne e.symm hy)
 ·intro y hy
  simp only [Value.ownBlock, Option.some.injEq] at hy
  subst hy; exact hgk
 ·rw [hlen]
  exact KdsF.snoc (KdsF.keep (by omega) hFk _ _ h.kids) (PtF.keep (by omega) hFk _ _ hp)
 ·rw [hlen]
  exact PtsF.keep (by omega) hFk _ _ h.tail
theorem OTr.pushT (h : OTr w K gt d A n c ks Av cv vs ts At ct us) (hK : In K w) (hgt : K gt) {p : Tr.PT} {v : Value} {gg cap : Nat}
  (hp : PtF w (fun x => ¬ K x ∧ some x ≠ (Value.slice Av ks.length cv).ownBlock ∧ some x ≠ (Value.slice At ts.length ct).ownBlock) p v)
  (hown : w5.ownsRow 0 122 1 (.slice (some ⟨gg, 0, none⟩) (ts.length + 1) cap) (ts.length + 1) (us ++ [v]))
  (hgrow : (w.alloc (.cells #[v] 122)).grownBy w5 (Value.slice At ts.length ct).ownBlock)
  (hat : (Value.slice At ts.length ct).ownBlock = some gg ∨ gg = w.heap.size + 1) :
  OTr (w5.setCell ⟨gt, 3, none⟩ (.slice (some ⟨gg, 0, none⟩) (ts.length + 1) cap)) K gt d A n c ks Av cv vs (ts ++ [p]) (some ⟨gg, 0, none⟩) cap (us ++ [v]) ∧
  (∀ x, x < w.heap.size → x ≠ gt → some x ≠ (Value.slice At ts.length ct).ownBlock → (w5.setCell ⟨gt, 3, none⟩ (.slice (some ⟨gg, 0, none⟩) (ts.length + 1) cap)).heap[x]? = w.heap[x]?) ∧ w.heap.size ≤ w5.heap.size ∧ Calm w (w5.setCell ⟨gt, 3, none⟩ (.slice (some ⟨gg, 0, none⟩) (ts.length + 1) cap)) := by
 have hz := hgrow.size
 simp at hz
 have old : ∀ x, x < w.heap.size → x ≠ gt → some x ≠ (Value.slice At ts.length ct).ownBlock → (w5.setCell ⟨gt, 3, none⟩ (.slice (some ⟨gg, 0, none⟩) (ts.length + 1) cap)).heap[x]? = w.heap[x]? := fun x hx hh hr =>
  ((Below.heap_setCell w5 ⟨gt, 3, none⟩ _ x hh).trans (hgrow.block x (by simp; omega) hr)).trans (Below.heap_alloc w _ x hx)
 have hgk : ¬ K gg := fun hk => by
  rcases hat with e | e
  ·exact h.nrt gg e hk
  ·have := hK gg hk; omega
 have hgn : ∀ x, x < w.heap.size → some x ≠ (Value.slice At ts.length ct).ownBlock → some x ≠ some gg := fun x hx hr e => by
  rcases hat with e' | e'
  ·exact hr (e.trans e'.symm)
  ·injection e; omega
 have hgg : gt ≠ gg := fun e => hgn gt h.blk.lt h.tne (by rw [e])
 have hlen : (ts ++ [p]).length = ts.length + 1 := by simp
 have hB5 := ((h.blk.alloc (.cells #[v] 122)).grown hgrow h.tne).set_ 3 (.slice (some ⟨gg, 0, none⟩) (ts.length + 1) cap)
 have hsz : w5.heap.size ≤ (w5.setCell ⟨gt, 3, none⟩ (.slice (some ⟨gg, 0, none⟩) (ts.length + 1) cap)).heap.size := by simp [World.setCell]
 have hFk : ∀ x, ¬ K x ∧ some x ≠ (Value.slice Av ks.length cv).ownBlock ∧ some x ≠ (Value.slice At ts.length ct).ownBlock → x < w.heap.size → (w5.setCell ⟨gt, 3, none⟩ (.slice (some ⟨gg, 0, none⟩) (ts.length + 1) cap)).heap[x]? = w.heap[x]? ∧ ¬ K x ∧ some x ≠ (Value.slice Av ks.length cv).ownBlock ∧ some x ≠ some gg :=
  fun x hF hl => ⟨old x hl (fun e => hF.1 (e ▸ hgt)) hF.2.2, hF.1, hF.2.1, hgn x hl hF.2.2⟩
 refine ⟨⟨?_, ?_, ?_, h.nrk, ?_, ?_, ?_⟩, old, by omega, ((show Calm w (w.alloc (.cells #[v] 122)) from ⟨rfl, rfl, rfl⟩).trans ⟨hgrow.os, hgrow.tape, hgrow.output⟩).trans (Calm.set w5 _ _)⟩
 ·rw [hlen]; exact hB5
 ·exact own_of_block h.ownk fun y hy => old y (h.ownk.lt y hy).2 (fun e => h.nrk y hy (e ▸ hgt)) (fun e => h.ne hy e.symm)
 ·rw [hlen]
  exact own_of_block hown fun y hy => Below.heap_setCell w5 ⟨gt, 3, none⟩ _ y (by simp only [Value.ownBlock, Option.some.injEq] at hy; subst hy; exact Ne.symm hgg)
 ·intro y hy
  simp only [Value.ownBlock, Option.some.injEq] at hy
  subst hy; exact hgk
 ·rw [hlen]
  exact KdsF.keep (by omega) hFk _ _ h.kids
 ·rw [hlen]
  exact PtsF.app (PtsF.keep (by omega) hFk _ _ h.tail) (PtsF.one (PtF.keep (by omega) hFk _ _ hp))
theorem Rdr.tree {s : Bs} {T : List Tk} {b m i : Nat} (R : Rdr w K g gt s T b m i) {v1 v2 : Value} (hs : w.heap.size ≤ w'.heap.size) (ho : ∀ x, K x → x ≠ gt → w'.heap[x]? = w.heap[x]?)
  (hB0 : Blk w gt 131 #[.pointer (some ⟨d, 0, none⟩), .slice A T.length c, v1, v2]) {v1' v2' : Value} (hB : Blk w' gt 131 #[.pointer (some ⟨d, 0, none⟩), .slice A T.length c, v1', v2'])
  (hrow : RowF w (fun x => K x ∧ x ≠ g ∧ x ≠ gt) A (tksC T)) (hdn : d ≠ gt) : Rdr w' K g gt s T b m i := by
 obtain ⟨d1, A1, c1, D, E, vk, vt, h1, h2, h3, h4, h5, h6⟩ := R.rs.tr.ex
 have e : #[Value.pointer (some ⟨d, 0, none⟩), .slice A T.length c, v1, v2] = #[Value.pointer (some ⟨d1, 0, none⟩), .slice A1 T.length c1, vk, vt] := by
  have := hB0.symm.trans h1
  injection this with this
  injection this
 simp only [Array.mk.injEq, List.cons.injEq, Value.pointer.injEq, Option.some.injEq, Addr.mk.injEq, Value.slice.injEq, and_true, true_and] at e
 obtain ⟨ed, ⟨rfl, rfl⟩, _⟩ := e
 subst ed
 have hng := R.rs.tr.ne
 refine ⟨⟨(ho g R.rs.tr.kg (Ne.symm hng)).trans R.rs.rd, R.rs.tr.kg, R.rs.tr.kt, hng, d, A, c, D, E, v1', v2', hB, h2, h3, (ho d h2 hdn).trans h4, ?_, h6⟩, R.inK.after hs, R.hi, R.hb⟩
 exact hrow.keep hs fun x hx _ => ⟨ho x hx.1 hx.2.2, hx.1, hx.2.1⟩
end
structure TreeIs (w : World) (F : Nat → Prop) (gt d : Nat) (A : Option Addr) (c : Nat) (T : List Tk) (ks : List Tr.Kd) (ts : List Tr.PT) : Prop where
 ex : ∃ Av cv At ct vs us, Blk w gt 131 #[.pointer (some ⟨d, 0, none⟩), .slice A T.length c, .slice Av ks.length cv, .slice At ts.length ct] ∧ ks.length ≤ cv ∧ ts.length ≤ ct ∧ RowF w F Av vs ∧ KdsF w F ks vs ∧ RowF w F At us ∧ PtsF w F ts us
theorem own_row {w : World} {B : Nat} {t : TypeId} {sz : Nat} {A : Option Addr} {n c : Nat} {vs : List Value} {F : Nat → Prop} (h : w.ownsRow B t sz (.slice A n c) n vs) (hF : ∀ q, (Value.slice A n c).ownBlock = some q → F q) : n ≤ c ∧ RowF w F A vs := by
 refine ⟨?_, fun hn => ?_⟩
 ·rcases h.2 with ⟨e, e2⟩ | ⟨q, cap, cur, e, _, _, hle, _⟩
  ·injection e; omega
  ·injection e with _ _ e3; omega
 ·rcases h.2 with ⟨e, e2⟩ | ⟨q, cap, cur, e, _, hq, hle, _, hz, hx⟩
  ·have := h.1
   rw [e2, Nat.zero_mul] at this
   omega
  ·injection e with e1 e2 e3
   subst e1
   refine ⟨q, 0, rfl, hF q rfl, lt_heap hq, fun j u hu => ?_⟩
   rw [Nat.zero_add]
   have h0 := h
   subst e3
   exact own_cell h0 j u hu
theorem OTr.done {w : World} {K F : Nat → Prop} {gt d : Nat} {A : Option Addr} {c : Nat} {T : List Tk} {ks : List Tr.Kd} {Av : Option Addr} {cv : Nat} {vs : List Value} {ts : List Tr.PT} {At : Option Addr} {ct : Nat} {us : List Value} (h : OTr w K gt d A T.length c ks Av cv vs ts At ct us) (hF : ∀ x, ¬ K x → F x) : TreeIs w F gt d A c T ks ts := by
 obtain ⟨h1, h2⟩ := own_row (F := F) h.ownk fun q hq => hF q (h.nrk q hq)
 obtain ⟨h3, h4⟩ := own_row (F := F) h.ownt fun q hq => hF q (h.nrt q hq)
 exact ⟨Av, cv, At, ct, vs, us, h.blk, h1, h3, h2, KdsF.keep (Nat.le_refl _) (fun x hx _ => ⟨rfl, hF x hx.1⟩) _ _ h.kids, h4, PtsF.keep (Nat.le_refl _) (fun x hx _ => ⟨rfl, hF x hx.1⟩) _ _ h.tail⟩
end Go.Proofs.YtcjjfeephaddcaaGreatDoor
