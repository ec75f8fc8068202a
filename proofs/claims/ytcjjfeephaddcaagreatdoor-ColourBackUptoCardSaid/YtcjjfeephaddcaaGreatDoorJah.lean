/-
  JOINED of the texts TS TT TU
-/
import Derived.Test.YtcjjfeephaddcaaGreatDoorJag
set_option linter.all false
namespace Go.Proofs.YtcjjfeephaddcaaGreatDoor
open Go.RowKit
theorem params_st {w0 w : World} {K : Nat → Prop} {g gt h kind at_ : Nat} {s : Bs} {T : List Tk} {b n i c : Nat} {st : Tr.St} (X : Txts s T) (S : StR w0 K g gt h kind at_ s T b n i c st w) (hc : c ≤ 1000) :
  Calls Tryz.prog 202 #[.pointer (some ⟨g, 0, none⟩), .pointer (some ⟨h, 0, none⟩)] w fun e w' => e = .returned (.tuple #[]) ∧ StR w0 K g gt h kind at_ s T b n i (c + 1) (Tr.thn st fun i => Tr.oneP (Tr.paramsP s T b i)) w' :=
 (params_walk X S.R S.B (by have := S.len X hc; omega)).mono fun _ _ he => S.step (Tr.Adv.one (Tr.params_goes s T b)) he
section
variable {g gt : Nat} {s : Bs} {T : List Tk} {b n : Nat} {e : Nat → Tr.St}
theorem one_call (X : Txts s T) (E : ExC g gt s T b (n + 1) e) (hn : n ≤ 1000) : OneC g gt s T b n 267 (Tr.callP s T b e) :=
 ⟨fun _ _ => by kernel_rfl, fun _ _ _ R => call_walk X E R hn (part_walk X E R hn)⟩
theorem one_product (X : Txts s T) (E : ExC g gt s T b (n + 1) e) (hn : n ≤ 1000) : OneC g gt s T b n 255 (Tr.productP s T b e) :=
 ⟨fun _ _ => by kernel_rfl, fun _ _ _ R => product_walk X R (one_call X E hn) (Tr.call_goes s T b E.adv)⟩
theorem one_sum (X : Txts s T) (E : ExC g gt s T b (n + 1) e) (hn : n ≤ 1000) : OneC g gt s T b n 245 (Tr.sumP s T b e) :=
 ⟨fun _ _ => by kernel_rfl, fun _ _ _ R => sum_walk X R (one_product X E hn) (Tr.product_goes s T b E.adv)⟩
theorem comp_walk {w : World} {K : Nat → Prop} {i : Nat} (X : Txts s T) (E : ExC g gt s T b (n + 1) e) (hn : n ≤ 1000) (R : Rdr w K g gt s T b n i) :
  Calls Tryz.prog 234 #[.pointer (some ⟨g, 0, none⟩)] w (PtE w K g gt s T b n (Tr.compP s T b e i)) := comparison_walk X R (one_sum X E hn)
end
set_option maxHeartbeats 8000000 in
set_option maxRecDepth 100000 in
theorem expr1_walk {w : World} {K : Nat → Prop} {g gt hl kl pl : Nat} {s : Bs} {T : List Tk} {b n i : Nat} {e : Nat → Tr.St} (X : Txts s T) (E : ExC g gt s T b n e) (S : StR w K g gt hl kl pl s T b n i 0 ([], i) w) (qr ql : Nat)
  (HB : Hid (∀ w', Aft K g w w' → w'.cell? ⟨qr, 0, none⟩ = some (.pointer (some ⟨g, 0, none⟩)) ∧ w'.cell? ⟨ql, 0, none⟩ = some (.pointer (some ⟨hl, 0, none⟩)))) :
  Calls Tryz.prog 231 #[.pointer (some ⟨qr, 0, none⟩), .pointer (some ⟨ql, 0, none⟩)] w (StE w K g gt hl kl pl s T b n (Tr.thn (Tr.thn (Tr.thn (Tr.thn (Tr.thn (Tr.takeP s T b i) (Tr.nameP s T b)) (Tr.wantP s T b [61])) e) (Tr.wantP s T b [105, 110])) e)) := by
 obtain ⟨k0, k1⟩ := HB.out _ S.A
 have hst := take_st X S (by omega)
 rw [thn_nil] at hst
 clear S
 go_enter Tryz.func231, Tryz.ntmps231
 go_wp2_with fail
 refine hst.mono ?_
 clear hst k0 k1
 rintro e1 w1 ⟨rfl, S⟩
 obtain ⟨k0, k1⟩ := HB.out _ S.A
 have hst := name_st X S (by omega)
 clear S
 go_wp2_with fail
 refine hst.mono ?_
 clear hst k0 k1
 rintro e1 w2 ⟨rfl, S⟩
 obtain ⟨k0, k1⟩ := HB.out _ S.A
 have hst := want_st X S [61] (by omega)
 clear S
 go_wp2_with fail
 refine hst.mono ?_
 clear hst k0 k1
 rintro e1 w3 ⟨rfl, S⟩
 obtain ⟨k0, k1⟩ := HB.out _ S.A
 have hst := expr_st X E S (by omega)
 clear S
 go_wp2_with fail
 refine hst.mono ?_
 clear hst k0 k1
 rintro e1 w4 ⟨rfl, S⟩
 obtain ⟨k0, k1⟩ := HB.out _ S.A
 have hst := want_st X S [105, 110] (by omega)
 clear S
 go_wp2_with fail
 refine hst.mono ?_
 clear hst k0 k1
 rintro e1 w5 ⟨rfl, S⟩
 obtain ⟨k0, k1⟩ := HB.out _ S.A
 have hst := expr_st X E S (by omega)
 clear S
 go_wp2_with fail
 refine hst.mono ?_
 clear hst k0 k1
 rintro e1 w6 ⟨rfl, S⟩
 go_wp2_with fail
 go_end0
 exact ⟨rfl, S.A, S.R, S.B⟩
set_option maxHeartbeats 8000000 in
set_option maxRecDepth 100000 in
theorem expr2_walk {w : World} {K : Nat → Prop} {g gt hl kl pl : Nat} {s : Bs} {T : List Tk} {b n i : Nat} {e : Nat → Tr.St} (X : Txts s T) (E : ExC g gt s T b n e) (S : StR w K g gt hl kl pl s T b n i 0 ([], i) w) (qr ql : Nat)
  (HB : Hid (∀ w', Aft K g w w' → w'.cell? ⟨qr, 0, none⟩ = some (.pointer (some ⟨g, 0, none⟩)) ∧ w'.cell? ⟨ql, 0, none⟩ = some (.pointer (some ⟨hl, 0, none⟩)))) :
  Calls Tryz.prog 232 #[.pointer (some ⟨qr, 0, none⟩), .pointer (some ⟨ql, 0, none⟩)] w (StE w K g gt hl kl pl s T b n (Tr.thn (Tr.thn (Tr.thn (Tr.thn (Tr.thn (Tr.takeP s T b i) e) (Tr.wantP s T b [116, 104, 101, 110])) e) (Tr.wantP s T b [101, 108, 115, 101])) e)) := by
 obtain ⟨k0, k1⟩ := HB.out _ S.A
 have hst := take_st X S (by omega)
 rw [thn_nil] at hst
 clear S
 go_enter Tryz.func232, Tryz.ntmps232
 go_wp2_with fail
 refine hst.mono ?_
 clear hst k0 k1
 rintro e1 w1 ⟨rfl, S⟩
 obtain ⟨k0, k1⟩ := HB.out _ S.A
 have hst := expr_st X E S (by omega)
 clear S
 go_wp2_with fail
 refine hst.mono ?_
 clear hst k0 k1
 rintro e1 w2 ⟨rfl, S⟩
 obtain ⟨k0, k1⟩ := HB.out _ S.A
 have hst := want_st X S [116, 104, 101, 110] (by omega)
 clear S
 go_wp2_with fail
 refine hst.mono ?_
 clear hst k0 k1
 rintro e1 w3 ⟨rfl, S⟩
 obtain ⟨k0, k1⟩ := HB.out _ S.A
 have hst := expr_st X E S (by omega)
 clear S
 go_wp2_with fail
 refine hst.mono ?_
 clear hst k0 k1
 rintro e1 w4 ⟨rfl, S⟩
 obtain ⟨k0, k1⟩ := HB.out _ S.A
 have hst := want_st X S [101, 108, 115, 101] (by omega)
 clear S
 go_wp2_with fail
 refine hst.mono ?_
 clear hst k0 k1
 rintro e1 w5 ⟨rfl, S⟩
 obtain ⟨k0, k1⟩ := HB.out _ S.A
 have hst := expr_st X E S (by omega)
 clear S
 go_wp2_with fail
 refine hst.mono ?_
 clear hst k0 k1
 rintro e1 w6 ⟨rfl, S⟩
 go_wp2_with fail
 go_end0
 exact ⟨rfl, S.A, S.R, S.B⟩
set_option maxHeartbeats 8000000 in
set_option maxRecDepth 100000 in
theorem expr3_walk {w : World} {K : Nat → Prop} {g gt hl kl pl : Nat} {s : Bs} {T : List Tk} {b n i : Nat} {e : Nat → Tr.St} (X : Txts s T) (E : ExC g gt s T b n e) (S : StR w K g gt hl kl pl s T b n i 0 ([], i) w) (qr ql : Nat)
  (HB : Hid (∀ w', Aft K g w w' → w'.cell? ⟨qr, 0, none⟩ = some (.pointer (some ⟨g, 0, none⟩)) ∧ w'.cell? ⟨ql, 0, none⟩ = some (.pointer (some ⟨hl, 0, none⟩)))) :
  Calls Tryz.prog 233 #[.pointer (some ⟨qr, 0, none⟩), .pointer (some ⟨ql, 0, none⟩)] w (StE w K g gt hl kl pl s T b n (Tr.thn (Tr.thn (Tr.thn (Tr.takeP s T b i) fun i => Tr.oneP (Tr.paramsP s T b i)) (Tr.wantP s T b [61, 62])) e)) := by
 obtain ⟨k0, k1⟩ := HB.out _ S.A
 have hst := take_st X S (by omega)
 rw [thn_nil] at hst
 clear S
 go_enter Tryz.func233, Tryz.ntmps233
 go_wp2_with fail
 refine hst.mono ?_
 clear hst k0 k1
 rintro e1 w1 ⟨rfl, S⟩
 obtain ⟨k0, k1⟩ := HB.out _ S.A
 have hst := params_st X S (by omega)
 clear S
 go_wp2_with fail
 refine hst.mono ?_
 clear hst k0 k1
 rintro e1 w2 ⟨rfl, S⟩
 obtain ⟨k0, k1⟩ := HB.out _ S.A
 have hst := want_st X S [61, 62] (by omega)
 clear S
 go_wp2_with fail
 refine hst.mono ?_
 clear hst k0 k1
 rintro e1 w3 ⟨rfl, S⟩
 obtain ⟨k0, k1⟩ := HB.out _ S.A
 have hst := expr_st X E S (by omega)
 clear S
 go_wp2_with fail
 refine hst.mono ?_
 clear hst k0 k1
 rintro e1 w4 ⟨rfl, S⟩
 go_wp2_with fail
 go_end0
 exact ⟨rfl, S.A, S.R, S.B⟩
set_option maxHeartbeats 16000000 in
set_option maxRecDepth 100000 in
theorem expr_step {w : World} {K : Nat → Prop} {g gt : Nat} {s : Bs} {T : List Tk} {b n i : Nat} {h kind at_ : Nat} {pts : List Tr.PT} {f : Nat} (X : Txts s T) (E : ExC g gt s T b (n + 1) (fun i => Tr.oneP (Tr.exprP s T b f i))) (hn : n ≤ 64) (R : Rdr w K g gt s T b n i) (hb : Br w K h kind at_ pts) (hl0 : pts.length ≤ 40000000) :
  Calls Tryz.prog 203 #[.pointer (some ⟨g, 0, none⟩), .pointer (some ⟨h, 0, none⟩)] w (StE w K g gt h kind at_ s T b n (pts ++ [(Tr.exprP s T b (f + 1) i).1], (Tr.exprP s T b (f + 1) i).2)) := by
 obtain ⟨i0, ji, jz0, jz1, jz2⟩ := info_parts infoPart
 obtain ⟨A, c, vs, hb⟩ := hb
 have h0 := hb.blk.lt
 have hr := hb.row_lt
 have hK0 := R.inK
 have hgl := R.rs.rd.lt
 have HX1 : Hid (Tr.isP s T [Tr.sLet] i = true → Tr.exprP s T b (f + 1) i = Tr.letP s T b (fun i => Tr.oneP (Tr.exprP s T b f i)) i) := fun h => by rw [Tr.exprP, if_pos h]
 have HX2 : Hid (Tr.isP s T [Tr.sLet] i = false → Tr.isP s T [Tr.sIf] i = true → Tr.exprP s T b (f + 1) i = Tr.ifP s T b (fun i => Tr.oneP (Tr.exprP s T b f i)) i) := fun h h2 => by rw [Tr.exprP, if_neg (by rw [h]; simp), if_pos h2]
 have HX3 : Hid (Tr.isP s T [Tr.sLet] i = false → Tr.isP s T [Tr.sIf] i = false → Tr.isP s T [Tr.sFun] i = true → Tr.exprP s T b (f + 1) i = Tr.funP s T b (fun i => Tr.oneP (Tr.exprP s T b f i)) i) := fun h h2 h3 => by rw [Tr.exprP, if_neg (by rw [h]; simp), if_neg (by rw [h2]; simp), if_pos h3]
 have HX4 : Hid (Tr.isP s T [Tr.sLet] i = false → Tr.isP s T [Tr.sIf] i = false → Tr.isP s T [Tr.sFun] i = false → Tr.exprP s T b (f + 1) i = Tr.compP s T b (fun i => Tr.oneP (Tr.exprP s T b f i)) i) := fun h h2 h3 => by rw [Tr.exprP, if_neg (by rw [h]; simp), if_neg (by rw [h2]; simp), if_neg (by rw [h3]; simp)]
 have hd0 : Below w.heap.size w (w.alloc (.cells #[.pointer (some ⟨g, 0, none⟩)] 203)) := (Below.refl _ _).alloc (Nat.le_refl _) _
 have hqa : Blk (w.alloc (.cells #[.pointer (some ⟨g, 0, none⟩)] 203)) w.heap.size 203 #[.pointer (some ⟨g, 0, none⟩)] := Blk.new _ _ _
 have R1 := R.below hd0
 obtain ⟨q, hqe⟩ : ∃ x, x = w.heap.size := ⟨_, rfl⟩
 rw [← hqe] at hqa
 have hqg : q ≠ g := by omega
 go_enter Tryz.func203, Tryz.ntmps203
 go_upto_region 1 with fail
 rw [← hqe]
 clear hqe
 generalize (w.alloc (.cells #[.pointer (some ⟨g, 0, none⟩)] 203)) = w1 at *
 have k0 := hqa.cell 0
 simp at k0
 obtain ⟨_, _, _, g3⟩ := R1.rs.cells
 have n1 : ¬ (64 : Int) < (n : Int) := by omega
 go_wp2_with fail
 clear g3 n1
 have his : Calls Tryz.prog 150 #[.pointer (some ⟨g, 0, none⟩), .slice (some ⟨w1.heap.size, 0, none⟩) 1 1] (w1.alloc (.cells #[.string ⟨#[108, 101, 116]⟩] 9)) fun e w' => e = .returned (.bool (Tr.isP s T [Tr.sLet] i)) ∧ Below w1.heap.size w1 w' := is_lit X R1 [Tr.sLet] (by simp) 1
 generalize Tr.isP s T [Tr.sLet] i = vb at *
 go_wp2_with fail
 refine his.mono ?_
 clear his
 rintro e1 w2 ⟨rfl, hdz⟩
 have R2 := R1.below hdz
 have hqb := hqa.below hdz hqa.lt
 have hd1 := hd0.trans (hdz.mono hd0.size)
 clear R1 hqa hd0 hdz k0
 have k0 := hqb.cell 0
 simp at k0
 cases vb with
 | true =>
  have HX := HX1.out (by first | rfl | trivial)
  clear HX1 HX2 HX3 HX4
  have hq2 := hqb.lt
  have hbr := branch_st X R2 7
  obtain ⟨hl, hhl⟩ : ∃ x, x = w2.heap.size := ⟨_, rfl⟩
  rw [← hhl] at hbr
  have HN : Hid (hl = w2.heap.size) := hhl
  clear hhl
  have HP : Hid (Tr.exprP s T b (f + 1) i = (.branch 7 (Tr.placeP s T b i) (Tr.thn (Tr.thn (Tr.thn (Tr.thn (Tr.thn (Tr.takeP s T b i) (Tr.nameP s T b)) (Tr.wantP s T b [61])) (fun i => Tr.oneP (Tr.exprP s T b f i))) (Tr.wantP s T b [105, 110])) (fun i => Tr.oneP (Tr.exprP s T b f i))).1, (Tr.thn (Tr.thn (Tr.thn (Tr.thn (Tr.thn (Tr.takeP s T b i) (Tr.nameP s T b)) (Tr.wantP s T b [61])) (fun i => Tr.oneP (Tr.exprP s T b f i))) (Tr.wantP s T b [105, 110])) (fun i => Tr.oneP (Tr.exprP s T b f i))).2)) := HX
  clear HX
  generalize Tr.placeP s T b i = pl at *
  go_wp2_with fail
  refine hbr.mono ?_
  clear hbr k0
  rintro e1 w3 ⟨rfl, hz2, hd2, S⟩
  rw [HN.out] at hd2 hz2
  have Hz2 := Lib.hid hz2
  clear hz2
  have hq1 := hqb.below hd2 hqb.lt
  have hd3 : Below w3.heap.size w3 (w3.alloc (.cells #[.pointer (some ⟨hl, 0, none⟩)] 114)) := (Below.refl _ _).alloc (Nat.le_refl _) _
  have hq3 : Blk (w3.alloc (.cells #[.pointer (some ⟨hl, 0, none⟩)] 114)) w3.heap.size 114 #[.pointer (some ⟨hl, 0, none⟩)] := Blk.new _ _ _
  have hq1 := hq1.below hd3 hq1.lt
  have R3 := S.R.boxed (.cells #[.pointer (some ⟨hl, 0, none⟩)] 114)
  have B3 := S.B.boxed (.cells #[.pointer (some ⟨hl, 0, none⟩)] 114)
  have hd13 : Below w2.heap.size w2 (w3.alloc (.cells #[.pointer (some ⟨hl, 0, none⟩)] 114)) := hd2.trans (hd3.mono hd2.size)
  have hok := S.ok
  have hgl2 := R2.rs.rd.lt
  clear S hd2 hd3
  obtain ⟨ql, hql⟩ : ∃ x, x = w3.heap.size := ⟨_, rfl⟩
  rw [← hql] at R3 B3 hq3
  have hqg3 : ql ≠ g := by have := Hz2.out; omega
  go_upto_region 6 with fail
  rw [← hql]
  clear hql
  generalize (w3.alloc (.cells #[.pointer (some ⟨hl, 0, none⟩)] 114)) = w4 at *
  have k0 := hq1.cell 0
  simp at k0
  have HBX : Hid (∀ w0, Aft (Old w4) g w4 w0 → ∀ w', Aft (fun x => Old w2 x ∨ x = ql) g w0 w' → w'.cell? ⟨q, 0, none⟩ = some (.pointer (some ⟨g, 0, none⟩)) ∧ w'.cell? ⟨ql, 0, none⟩ = some (.pointer (some ⟨hl, 0, none⟩))) := fun w0 ha w' ha' =>
   ⟨cell_box (hq1.aft ha hq1.lt hqg) ha' (.inl hq2) hqg, cell_box (hq3.aft ha hq3.lt hqg3) ha' (.inr rfl) hqg3⟩
  obtain ⟨r, hr0⟩ : ∃ r, r = Tr.thn (Tr.thn (Tr.thn (Tr.thn (Tr.thn (Tr.takeP s T b i) (Tr.nameP s T b)) (Tr.wantP s T b [61])) (fun i => Tr.oneP (Tr.exprP s T b f i))) (Tr.wantP s T b [105, 110])) (fun i => Tr.oneP (Tr.exprP s T b f i)) := ⟨_, rfl⟩
  have hdp := deeper_walk (h := hl) (kind := 7) (at_ := pl) R3 (by omega) 231 #[.pointer (some ⟨q, 0, none⟩), .pointer (some ⟨ql, 0, none⟩)] r (fun _ _ => by kernel_rfl) (fun w0 ha R0 => by
   rw [hr0]
   exact expr1_walk X E ⟨Aft.refl _ _ _, R0, B3.aft ha R0.ng, hok⟩ q ql (HBX.out w0 ha))
  rw [← hr0] at HP
  clear hok B3 hr0
  go_wp2_with fail
  refine hdp.mono ?_
  clear hdp k0
  intro e1 w5 h5
  obtain ⟨rfl, hA5, R5, B5⟩ := h5
  have hA05 : Aft (Old w) g w w5 := (Kept.aft (Kept.below hd1 (Old.in_ w)) g).trans ((Kept.aft (Kept.below hd13 (fun x hx => Nat.lt_of_lt_of_le hx hd1.size)) g).trans (hA5.mono fun x hx => .inl (Nat.lt_of_lt_of_le hx hd1.size)))
  have hb := hb.aft hA05 R.ng (fun _ hx => hx)
  have hp4 : PtF w5 (fun x => ¬ Old w x) (.branch 7 pl r.1) (.iface 114 (.pointer (some ⟨hl, 0, none⟩))) := PtF.keep (Nat.le_refl _) (fun x hF _ => ⟨rfl, fun hx => hF (.inl (Nat.lt_of_lt_of_le hx hd1.size))⟩) _ _ B5.part
  have hp := hp4.pushB R.inK h0 hr
  have R := R.from_old R5 (hA05.old R.inK)
  have hA := hA05.mono (K' := K) (fun x hx => hK0 x hx)
  have hq3 := hq3.aft hA5 (.inr rfl) hqg3
  clear hA05 hA5 R5 B5 hp4 h0 hr hq1 HBX R3 hd13 E hqb R2 hd1 hgl2 Hz2 HN hq2
  generalize Tr.PT.branch 7 pl r.1 = pb at *
  generalize r.2 = ib at *
  go_upto_region 7 with fail
  refine wp_region_G 11 (fun w' : World => w'.cell? ⟨h, 1, none⟩ = some (.slice A pts.length c) ∧ w'.cell? ⟨ql, 0, none⟩ = some (.pointer (some ⟨hl, 0, none⟩))) (by kernel_rfl) ?_
  have hd : Below w5.heap.size w5 w5.drew := (Below.refl _ _).drew
  have hA := hA.trans (Kept.aft (Kept.below hd R.inK) g)
  have R := R.drew
  have hb := hb.below hd
  have hp := PtF.keep hd.size (fun x hF hl => ⟨hd.block x hl, hF⟩) _ _ hp
  have hq3 := hq3.drew
  clear hd
  generalize w5.drew = w6 at *
  have o1 := hb.blk.cell 1
  have k0 := hq3.cell 0
  simp at o1 k0
  have hS0 : (fun w' : World => w'.cell? ⟨h, 1, none⟩ = some (.slice A pts.length c) ∧ w'.cell? ⟨ql, 0, none⟩ = some (.pointer (some ⟨hl, 0, none⟩))) w6 := ⟨o1, k0⟩
  refine wpAnyG_tk 0 hS0 ?_
  simp only [Act.put, List.setIfInBounds_toArray]
  refine wpAnyG_tk 1 hS0 ?_
  simp only [Act.put]
  refine wpAnyG_tk 2 hS0 ?_
  simp only [Act.put]
  refine wpAnyG_tk 3 hS0 ?_
  simp only [Act.put]
  refine wpAnyG_tk 4 hS0 ?_
  simp only [Act.put]
  refine wpAnyG_tk 5 hS0 ?_
  simp only [Act.put]
  refine wpAnyG_tk 6 hS0 ?_
  simp only [Act.put]
  clear hS0
  refine wpAnyG_on 7 fun C hC => ?_
  go_simp
  refine hC.out _ _ (fun _ => ⟨(cell_alloc _ _ _ _ hb.blk.lt).trans o1, (cell_alloc _ _ _ _ hq3.lt).trans k0⟩) ?_
  clear hC C
  refine wpAnyG_on 8 fun C hC => ?_
  refine step_append_lies _ (by rfl) _ _ _ (by rfl) 0 122 i0 _ 1 16 Tryz.underlying119 ji jz0 jz1 jz2 rfl (by omega) (.slice A pts.length c) pts.length vs (by rfl) (hb.own.alloc (.cells #[.iface 114 (.pointer (some ⟨hl, 0, none⟩))] 122)) ⟨w6.heap.size, 0, none⟩ 1 1 [.iface 114 (.pointer (some ⟨hl, 0, none⟩))] (by rfl) (by rfl) (World.news_of_block (heap_alloc_new w6 _)) (by simp [Value.oneCell']) (by omega) (by unfold maxLen; omega) (by omega) (Nat.zero_le _) (w6.heap.size + 1) (by simp) ?_
  intro gg cap' w7 hown5 hgrow hat hlt5
  have hpu := hb.push R.inK hp hown5 hgrow hat
  have hg5 := (hb.blk.alloc (.cells #[.iface 114 (.pointer (some ⟨hl, 0, none⟩))] 122)).grown hgrow hb.row_ne
  have b1 := hg5.cell 1
  have bf := hg5.frozen 1
  simp at b1
  have hx5 := (hq3.alloc (.cells #[.iface 114 (.pointer (some ⟨hl, 0, none⟩))] 122)).grown hgrow (own_ne hb.own hq3 (by decide))
  have e0 := hx5.cell 0
  simp at e0
  refine hC.out _ _ (fun _ => ⟨b1, e0⟩) ?_
  clear hC C
  refine wpAnyG_on 9 fun C hC => ?_
  go_simp
  refine hC.out _ _ (fun _ => ⟨b1, e0⟩) ?_
  clear hC C
  refine wpAnyG_on 10 fun C hC => ?_
  go_simp
  refine hC.out _ _ (fun _ => ⟨b1, e0⟩) ?_
  clear hC C
  refine wpAnyG_on 11 fun C hC => ?_
  go_simp
  refine hC.out _ _ (fun h => absurd rfl h) ?_
  clear hC C
  refine wpAnyG_done (by kernel_rfl) ?_ _
  have hB := hpu.1
  have R := R.kept hpu.2
  have hA := hA.trans (hpu.2.aft g)
  clear hb hp o1 hown5 hgrow hat hlt5 hpu hg5 b1 bf
  go_wp2_with fail
  go_end0
  rw [HP.out]
  exact ⟨rfl, hA, R, hB⟩
 | false =>
  have HX2 := Lib.hid (HX2.out (by first | rfl | trivial))
  have HX3 := Lib.hid (HX3.out (by first | rfl | trivial))
  have HX4 := Lib.hid (HX4.out (by first | rfl | trivial))
  clear HX1
  have R1 := R2
  have hqa := hqb
  have hd0 := hd1
  clear R2 hqb hd1
  generalize w2 = w1 at *
  have his : Calls Tryz.prog 150 #[.pointer (some ⟨g, 0, none⟩), .slice (some ⟨w1.heap.size, 0, none⟩) 1 1] (w1.alloc (.cells #[.string ⟨#[105, 102]⟩] 9)) fun e w' => e = .returned (.bool (Tr.isP s T [Tr.sIf] i)) ∧ Below w1.heap.size w1 w' := is_lit X R1 [Tr.sIf] (by simp) 1
  generalize Tr.isP s T [Tr.sIf] i = vb at *
  go_wp2_with fail
  refine his.mono ?_
  clear his
  rintro e1 w2 ⟨rfl, hdz⟩
  have R2 := R1.below hdz
  have hqb := hqa.below hdz hqa.lt
  have hd1 := hd0.trans (hdz.mono hd0.size)
  clear R1 hqa hd0 hdz k0
  have k0 := hqb.cell 0
  simp at k0
  cases vb with
  | true =>
   have HX : Tr.exprP s T b (f + 1) i = Tr.ifP s T b (fun i => Tr.oneP (Tr.exprP s T b f i)) i := by first | exact HX2.out (by first | rfl | trivial) | exact HX2.out (by first | rfl | trivial) (by first | rfl | trivial) | exact HX2.out (by first | rfl | trivial) (by first | rfl | trivial) (by first | rfl | trivial)
   clear HX2 HX3 HX4
   have hq2 := hqb.lt
   have hbr := branch_st X R2 8
   obtain ⟨hl, hhl⟩ : ∃ x, x = w2.heap.size := ⟨_, rfl⟩
   rw [← hhl] at hbr
   have HN : Hid (hl = w2.heap.size) := hhl
   clear hhl
   have HP : Hid (Tr.exprP s T b (f + 1) i = (.branch 8 (Tr.placeP s T b i) (Tr.thn (Tr.thn (Tr.thn (Tr.thn (Tr.thn (Tr.takeP s T b i) (fun i => Tr.oneP (Tr.exprP s T b f i))) (Tr.wantP s T b [116, 104, 101, 110])) (fun i => Tr.oneP (Tr.exprP s T b f i))) (Tr.wantP s T b [101, 108, 115, 101])) (fun i => Tr.oneP (Tr.exprP s T b f i))).1, (Tr.thn (Tr.thn (Tr.thn (Tr.thn (Tr.thn (Tr.takeP s T b i) (fun i => Tr.oneP (Tr.exprP s T b f i))) (Tr.wantP s T b [116, 104, 101, 110])) (fun i => Tr.oneP (Tr.exprP s T b f i))) (Tr.wantP s T b [101, 108, 115, 101])) (fun i => Tr.oneP (Tr.exprP s T b f i))).2)) := HX
   clear HX
   generalize Tr.placeP s T b i = pl at *
   go_wp2_with fail
   refine hbr.mono ?_
   clear hbr k0
   rintro e1 w3 ⟨rfl, hz2, hd2, S⟩
   rw [HN.out] at hd2 hz2
   have Hz2 := Lib.hid hz2
   clear hz2
   have hq1 := hqb.below hd2 hqb.lt
   have hd3 : Below w3.heap.size w3 (w3.alloc (.cells #[.pointer (some ⟨hl, 0, none⟩)] 114)) := (Below.refl _ _).alloc (Nat.le_refl _) _
   have hq3 : Blk (w3.alloc (.cells #[.pointer (some ⟨hl, 0, none⟩)] 114)) w3.heap.size 114 #[.pointer (some ⟨hl, 0, none⟩)] := Blk.new _ _ _
   have hq1 := hq1.below hd3 hq1.lt
   have R3 := S.R.boxed (.cells #[.pointer (some ⟨hl, 0, none⟩)] 114)
   have B3 := S.B.boxed (.cells #[.pointer (some ⟨hl, 0, none⟩)] 114)
   have hd13 : Below w2.heap.size w2 (w3.alloc (.cells #[.pointer (some ⟨hl, 0, none⟩)] 114)) := hd2.trans (hd3.mono hd2.size)
   have hok := S.ok
   have hgl2 := R2.rs.rd.lt
   clear S hd2 hd3
   obtain ⟨ql, hql⟩ : ∃ x, x = w3.heap.size := ⟨_, rfl⟩
   rw [← hql] at R3 B3 hq3
   have hqg3 : ql ≠ g := by have := Hz2.out; omega
   go_upto_region 10 with fail
   rw [← hql]
   clear hql
   generalize (w3.alloc (.cells #[.pointer (some ⟨hl, 0, none⟩)] 114)) = w4 at *
   have k0 := hq1.cell 0
   simp at k0
   have HBX : Hid (∀ w0, Aft (Old w4) g w4 w0 → ∀ w', Aft (fun x => Old w2 x ∨ x = ql) g w0 w' → w'.cell? ⟨q, 0, none⟩ = some (.pointer (some ⟨g, 0, none⟩)) ∧ w'.cell? ⟨ql, 0, none⟩ = some (.pointer (some ⟨hl, 0, none⟩))) := fun w0 ha w' ha' =>
    ⟨cell_box (hq1.aft ha hq1.lt hqg) ha' (.inl hq2) hqg, cell_box (hq3.aft ha hq3.lt hqg3) ha' (.inr rfl) hqg3⟩
   obtain ⟨r, hr0⟩ : ∃ r, r = Tr.thn (Tr.thn (Tr.thn (Tr.thn (Tr.thn (Tr.takeP s T b i) (fun i => Tr.oneP (Tr.exprP s T b f i))) (Tr.wantP s T b [116, 104, 101, 110])) (fun i => Tr.oneP (Tr.exprP s T b f i))) (Tr.wantP s T b [101, 108, 115, 101])) (fun i => Tr.oneP (Tr.exprP s T b f i)) := ⟨_, rfl⟩
   have hdp := deeper_walk (h := hl) (kind := 8) (at_ := pl) R3 (by omega) 232 #[.pointer (some ⟨q, 0, none⟩), .pointer (some ⟨ql, 0, none⟩)] r (fun _ _ => by kernel_rfl) (fun w0 ha R0 => by
    rw [hr0]
    exact expr2_walk X E ⟨Aft.refl _ _ _, R0, B3.aft ha R0.ng, hok⟩ q ql (HBX.out w0 ha))
   rw [← hr0] at HP
   clear hok B3 hr0
   go_wp2_with fail
   refine hdp.mono ?_
   clear hdp k0
   intro e1 w5 h5
   obtain ⟨rfl, hA5, R5, B5⟩ := h5
   have hA05 : Aft (Old w) g w w5 := (Kept.aft (Kept.below hd1 (Old.in_ w)) g).trans ((Kept.aft (Kept.below hd13 (fun x hx => Nat.lt_of_lt_of_le hx hd1.size)) g).trans (hA5.mono fun x hx => .inl (Nat.lt_of_lt_of_le hx hd1.size)))
   have hb := hb.aft hA05 R.ng (fun _ hx => hx)
   have hp4 : PtF w5 (fun x => ¬ Old w x) (.branch 8 pl r.1) (.iface 114 (.pointer (some ⟨hl, 0, none⟩))) := PtF.keep (Nat.le_refl _) (fun x hF _ => ⟨rfl, fun hx => hF (.inl (Nat.lt_of_lt_of_le hx hd1.size))⟩) _ _ B5.part
   have hp := hp4.pushB R.inK h0 hr
   have R := R.from_old R5 (hA05.old R.inK)
   have hA := hA05.mono (K' := K) (fun x hx => hK0 x hx)
   have hq3 := hq3.aft hA5 (.inr rfl) hqg3
   clear hA05 hA5 R5 B5 hp4 h0 hr hq1 HBX R3 hd13 E hqb R2 hd1 hgl2 Hz2 HN hq2
   generalize Tr.PT.branch 8 pl r.1 = pb at *
   generalize r.2 = ib at *
   go_upto_region 11 with fail
   refine wp_region_G 11 (fun w' : World => w'.cell? ⟨h, 1, none⟩ = some (.slice A pts.length c) ∧ w'.cell? ⟨ql, 0, none⟩ = some (.pointer (some ⟨hl, 0, none⟩))) (by kernel_rfl) ?_
   have hd : Below w5.heap.size w5 w5.drew := (Below.refl _ _).drew
   have hA := hA.trans (Kept.aft (Kept.below hd R.inK) g)
   have R := R.drew
   have hb := hb.below hd
   have hp := PtF.keep hd.size (fun x hF hl => ⟨hd.block x hl, hF⟩) _ _ hp
   have hq3 := hq3.drew
   clear hd
   generalize w5.drew = w6 at *
   have o1 := hb.blk.cell 1
   have k0 := hq3.cell 0
   simp at o1 k0
   have hS0 : (fun w' : World => w'.cell? ⟨h, 1, none⟩ = some (.slice A pts.length c) ∧ w'.cell? ⟨ql, 0, none⟩ = some (.pointer (some ⟨hl, 0, none⟩))) w6 := ⟨o1, k0⟩
   refine wpAnyG_tk 0 hS0 ?_
   simp only [Act.put, List.setIfInBounds_toArray]
   refine wpAnyG_tk 1 hS0 ?_
   simp only [Act.put]
   refine wpAnyG_tk 2 hS0 ?_
   simp only [Act.put]
   refine wpAnyG_tk 3 hS0 ?_
   simp only [Act.put]
   refine wpAnyG_tk 4 hS0 ?_
   simp only [Act.put]
   refine wpAnyG_tk 5 hS0 ?_
   simp only [Act.put]
   refine wpAnyG_tk 6 hS0 ?_
   simp only [Act.put]
   clear hS0
   refine wpAnyG_on 7 fun C hC => ?_
   go_simp
   refine hC.out _ _ (fun _ => ⟨(cell_alloc _ _ _ _ hb.blk.lt).trans o1, (cell_alloc _ _ _ _ hq3.lt).trans k0⟩) ?_
   clear hC C
   refine wpAnyG_on 8 fun C hC => ?_
   refine step_append_lies _ (by rfl) _ _ _ (by rfl) 0 122 i0 _ 1 16 Tryz.underlying119 ji jz0 jz1 jz2 rfl (by omega) (.slice A pts.length c) pts.length vs (by rfl) (hb.own.alloc (.cells #[.iface 114 (.pointer (some ⟨hl, 0, none⟩))] 122)) ⟨w6.heap.size, 0, none⟩ 1 1 [.iface 114 (.pointer (some ⟨hl, 0, none⟩))] (by rfl) (by rfl) (World.news_of_block (heap_alloc_new w6 _)) (by simp [Value.oneCell']) (by omega) (by unfold maxLen; omega) (by omega) (Nat.zero_le _) (w6.heap.size + 1) (by simp) ?_
   intro gg cap' w7 hown5 hgrow hat hlt5
   have hpu := hb.push R.inK hp hown5 hgrow hat
   have hg5 := (hb.blk.alloc (.cells #[.iface 114 (.pointer (some ⟨hl, 0, none⟩))] 122)).grown hgrow hb.row_ne
   have b1 := hg5.cell 1
   have bf := hg5.frozen 1
   simp at b1
   have hx5 := (hq3.alloc (.cells #[.iface 114 (.pointer (some ⟨hl, 0, none⟩))] 122)).grown hgrow (own_ne hb.own hq3 (by decide))
   have e0 := hx5.cell 0
   simp at e0
   refine hC.out _ _ (fun _ => ⟨b1, e0⟩) ?_
   clear hC C
   refine wpAnyG_on 9 fun C hC => ?_
   go_simp
   refine hC.out _ _ (fun _ => ⟨b1, e0⟩) ?_
   clear hC C
   refine wpAnyG_on 10 fun C hC => ?_
   go_simp
   refine hC.out _ _ (fun _ => ⟨b1, e0⟩) ?_
   clear hC C
   refine wpAnyG_on 11 fun C hC => ?_
   go_simp
   refine hC.out _ _ (fun h => absurd rfl h) ?_
   clear hC C
   refine wpAnyG_done (by kernel_rfl) ?_ _
   have hB := hpu.1
   have R := R.kept hpu.2
   have hA := hA.trans (hpu.2.aft g)
   clear hb hp o1 hown5 hgrow hat hlt5 hpu hg5 b1 bf
   go_wp2_with fail
   go_end0
   rw [HP.out]
   exact ⟨rfl, hA, R, hB⟩
  | false =>
   have HX3 := Lib.hid (HX3.out (by first | rfl | trivial))
   have HX4 := Lib.hid (HX4.out (by first | rfl | trivial))
   clear HX2
   have R1 := R2
   have hqa := hqb
   have hd0 := hd1
   clear R2 hqb hd1
   generalize w2 = w1 at *
   have his : Calls Tryz.prog 150 #[.pointer (some ⟨g, 0, none⟩), .slice (some ⟨w1.heap.size, 0, none⟩) 1 1] (w1.alloc (.cells #[.string ⟨#[102, 117, 110]⟩] 9)) fun e w' => e = .returned (.bool (Tr.isP s T [Tr.sFun] i)) ∧ Below w1.heap.size w1 w' := is_lit X R1 [Tr.sFun] (by simp) 1
   generalize Tr.isP s T [Tr.sFun] i = vb at *
   go_wp2_with fail
   refine his.mono ?_
   clear his
   rintro e1 w2 ⟨rfl, hdz⟩
   have R2 := R1.below hdz
   have hqb := hqa.below hdz hqa.lt
   have hd1 := hd0.trans (hdz.mono hd0.size)
   clear R1 hqa hd0 hdz k0
   have k0 := hqb.cell 0
   simp at k0
   cases vb with
   | true =>
    have HX : Tr.exprP s T b (f + 1) i = Tr.funP s T b (fun i => Tr.oneP (Tr.exprP s T b f i)) i := by first | exact HX3.out (by first | rfl | trivial) | exact HX3.out (by first | rfl | trivial) (by first | rfl | trivial) | exact HX3.out (by first | rfl | trivial) (by first | rfl | trivial) (by first | rfl | trivial)
    clear HX3 HX4
    have hq2 := hqb.lt
    have hbr := branch_st X R2 9
    obtain ⟨hl, hhl⟩ : ∃ x, x = w2.heap.size := ⟨_, rfl⟩
    rw [← hhl] at hbr
    have HN : Hid (hl = w2.heap.size) := hhl
    clear hhl
    have HP : Hid (Tr.exprP s T b (f + 1) i = (.branch 9 (Tr.placeP s T b i) (Tr.thn (Tr.thn (Tr.thn (Tr.takeP s T b i) fun i => Tr.oneP (Tr.paramsP s T b i)) (Tr.wantP s T b [61, 62])) (fun i => Tr.oneP (Tr.exprP s T b f i))).1, (Tr.thn (Tr.thn (Tr.thn (Tr.takeP s T b i) fun i => Tr.oneP (Tr.paramsP s T b i)) (Tr.wantP s T b [61, 62])) (fun i => Tr.oneP (Tr.exprP s T b f i))).2)) := HX
    clear HX
    generalize Tr.placeP s T b i = pl at *
    go_wp2_with fail
    refine hbr.mono ?_
    clear hbr k0
    rintro e1 w3 ⟨rfl, hz2, hd2, S⟩
    rw [HN.out] at hd2 hz2
    have Hz2 := Lib.hid hz2
    clear hz2
    have hq1 := hqb.below hd2 hqb.lt
    have hd3 : Below w3.heap.size w3 (w3.alloc (.cells #[.pointer (some ⟨hl, 0, none⟩)] 114)) := (Below.refl _ _).alloc (Nat.le_refl _) _
    have hq3 : Blk (w3.alloc (.cells #[.pointer (some ⟨hl, 0, none⟩)] 114)) w3.heap.size 114 #[.pointer (some ⟨hl, 0, none⟩)] := Blk.new _ _ _
    have hq1 := hq1.below hd3 hq1.lt
    have R3 := S.R.boxed (.cells #[.pointer (some ⟨hl, 0, none⟩)] 114)
    have B3 := S.B.boxed (.cells #[.pointer (some ⟨hl, 0, none⟩)] 114)
    have hd13 : Below w2.heap.size w2 (w3.alloc (.cells #[.pointer (some ⟨hl, 0, none⟩)] 114)) := hd2.trans (hd3.mono hd2.size)
    have hok := S.ok
    have hgl2 := R2.rs.rd.lt
    clear S hd2 hd3
    obtain ⟨ql, hql⟩ : ∃ x, x = w3.heap.size := ⟨_, rfl⟩
    rw [← hql] at R3 B3 hq3
    have hqg3 : ql ≠ g := by have := Hz2.out; omega
    go_upto_region 14 with fail
    rw [← hql]
    clear hql
    generalize (w3.alloc (.cells #[.pointer (some ⟨hl, 0, none⟩)] 114)) = w4 at *
    have k0 := hq1.cell 0
    simp at k0
    have HBX : Hid (∀ w0, Aft (Old w4) g w4 w0 → ∀ w', Aft (fun x => Old w2 x ∨ x = ql) g w0 w' → w'.cell? ⟨q, 0, none⟩ = some (.pointer (some ⟨g, 0, none⟩)) ∧ w'.cell? ⟨ql, 0, none⟩ = some (.pointer (some ⟨hl, 0, none⟩))) := fun w0 ha w' ha' =>
     ⟨cell_box (hq1.aft ha hq1.lt hqg) ha' (.inl hq2) hqg, cell_box (hq3.aft ha hq3.lt hqg3) ha' (.inr rfl) hqg3⟩
    obtain ⟨r, hr0⟩ : ∃ r, r = Tr.thn (Tr.thn (Tr.thn (Tr.takeP s T b i) fun i => Tr.oneP (Tr.paramsP s T b i)) (Tr.wantP s T b [61, 62])) (fun i => Tr.oneP (Tr.exprP s T b f i)) := ⟨_, rfl⟩
    have hdp := deeper_walk (h := hl) (kind := 9) (at_ := pl) R3 (by omega) 233 #[.pointer (some ⟨q, 0, none⟩), .pointer (some ⟨ql, 0, none⟩)] r (fun _ _ => by kernel_rfl) (fun w0 ha R0 => by
     rw [hr0]
     exact expr3_walk X E ⟨Aft.refl _ _ _, R0, B3.aft ha R0.ng, hok⟩ q ql (HBX.out w0 ha))
    rw [← hr0] at HP
    clear hok B3 hr0
    go_wp2_with fail
    refine hdp.mono ?_
    clear hdp k0
    intro e1 w5 h5
    obtain ⟨rfl, hA5, R5, B5⟩ := h5
    have hA05 : Aft (Old w) g w w5 := (Kept.aft (Kept.below hd1 (Old.in_ w)) g).trans ((Kept.aft (Kept.below hd13 (fun x hx => Nat.lt_of_lt_of_le hx hd1.size)) g).trans (hA5.mono fun x hx => .inl (Nat.lt_of_lt_of_le hx hd1.size)))
    have hb := hb.aft hA05 R.ng (fun _ hx => hx)
    have hp4 : PtF w5 (fun x => ¬ Old w x) (.branch 9 pl r.1) (.iface 114 (.pointer (some ⟨hl, 0, none⟩))) := PtF.keep (Nat.le_refl _) (fun x hF _ => ⟨rfl, fun hx => hF (.inl (Nat.lt_of_lt_of_le hx hd1.size))⟩) _ _ B5.part
    have hp := hp4.pushB R.inK h0 hr
    have R := R.from_old R5 (hA05.old R.inK)
    have hA := hA05.mono (K' := K) (fun x hx => hK0 x hx)
    have hq3 := hq3.aft hA5 (.inr rfl) hqg3
    clear hA05 hA5 R5 B5 hp4 h0 hr hq1 HBX R3 hd13 E hqb R2 hd1 hgl2 Hz2 HN hq2
    generalize Tr.PT.branch 9 pl r.1 = pb at *
    generalize r.2 = ib at *
    go_upto_region 15 with fail
    refine wp_region_G 11 (fun w' : World => w'.cell? ⟨h, 1, none⟩ = some (.slice A pts.length c) ∧ w'.cell? ⟨ql, 0, none⟩ = some (.pointer (some ⟨hl, 0, none⟩))) (by kernel_rfl) ?_
    have hd : Below w5.heap.size w5 w5.drew := (Below.refl _ _).drew
    have hA := hA.trans (Kept.aft (Kept.below hd R.inK) g)
    have R := R.drew
    have hb := hb.below hd
    have hp := PtF.keep hd.size (fun x hF hl => ⟨hd.block x hl, hF⟩) _ _ hp
    have hq3 := hq3.drew
    clear hd
    generalize w5.drew = w6 at *
    have o1 := hb.blk.cell 1
    have k0 := hq3.cell 0
    simp at o1 k0
    have hS0 : (fun w' : World => w'.cell? ⟨h, 1, none⟩ = some (.slice A pts.length c) ∧ w'.cell? ⟨ql, 0, none⟩ = some (.pointer (some ⟨hl, 0, none⟩))) w6 := ⟨o1, k0⟩
    refine wpAnyG_tk 0 hS0 ?_
    simp only [Act.put, List.setIfInBounds_toArray]
    refine wpAnyG_tk 1 hS0 ?_
    simp only [Act.put]
    refine wpAnyG_tk 2 hS0 ?_
    simp only [Act.put]
    refine wpAnyG_tk 3 hS0 ?_
    simp only [Act.put]
    refine wpAnyG_tk 4 hS0 ?_
    simp only [Act.put]
    refine wpAnyG_tk 5 hS0 ?_
    simp only [Act.put]
    refine wpAnyG_tk 6 hS0 ?_
    simp only [Act.put]
    clear hS0
    refine wpAnyG_on 7 fun C hC => ?_
    go_simp
    refine hC.out _ _ (fun _ => ⟨(cell_alloc _ _ _ _ hb.blk.lt).trans o1, (cell_alloc _ _ _ _ hq3.lt).trans k0⟩) ?_
    clear hC C
    refine wpAnyG_on 8 fun C hC => ?_
    refine step_append_lies _ (by rfl) _ _ _ (by rfl) 0 122 i0 _ 1 16 Tryz.underlying119 ji jz0 jz1 jz2 rfl (by omega) (.slice A pts.length c) pts.length vs (by rfl) (hb.own.alloc (.cells #[.iface 114 (.pointer (some ⟨hl, 0, none⟩))] 122)) ⟨w6.heap.size, 0, none⟩ 1 1 [.iface 114 (.pointer (some ⟨hl, 0, none⟩))] (by rfl) (by rfl) (World.news_of_block (heap_alloc_new w6 _)) (by simp [Value.oneCell']) (by omega) (by unfold maxLen; omega) (by omega) (Nat.zero_le _) (w6.heap.size + 1) (by simp) ?_
    intro gg cap' w7 hown5 hgrow hat hlt5
    have hpu := hb.push R.inK hp hown5 hgrow hat
    have hg5 := (hb.blk.alloc (.cells #[.iface 114 (.pointer (some ⟨hl, 0, none⟩))] 122)).grown hgrow hb.row_ne
    have b1 := hg5.cell 1
    have bf := hg5.frozen 1
    simp at b1
    have hx5 := (hq3.alloc (.cells #[.iface 114 (.pointer (some ⟨hl, 0, none⟩))] 122)).grown hgrow (own_ne hb.own hq3 (by decide))
    have e0 := hx5.cell 0
    simp at e0
    refine hC.out _ _ (fun _ => ⟨b1, e0⟩) ?_
    clear hC C
    refine wpAnyG_on 9 fun C hC => ?_
    go_simp
    refine hC.out _ _ (fun _ => ⟨b1, e0⟩) ?_
    clear hC C
    refine wpAnyG_on 10 fun C hC => ?_
    go_simp
    refine hC.out _ _ (fun _ => ⟨b1, e0⟩) ?_
    clear hC C
    refine wpAnyG_on 11 fun C hC => ?_
    go_simp
    refine hC.out _ _ (fun h => absurd rfl h) ?_
    clear hC C
    refine wpAnyG_done (by kernel_rfl) ?_ _
    have hB := hpu.1
    have R := R.kept hpu.2
    have hA := hA.trans (hpu.2.aft g)
    clear hb hp o1 hown5 hgrow hat hlt5 hpu hg5 b1 bf
    go_wp2_with fail
    go_end0
    rw [HP.out]
    exact ⟨rfl, hA, R, hB⟩
   | false =>
    have HX : Tr.exprP s T b (f + 1) i = Tr.compP s T b (fun i => Tr.oneP (Tr.exprP s T b f i)) i := by first | exact HX4.out (by first | rfl | trivial) | exact HX4.out (by first | rfl | trivial) (by first | rfl | trivial) | exact HX4.out (by first | rfl | trivial) (by first | rfl | trivial) (by first | rfl | trivial)
    clear HX3 HX4
    have HX := Lib.hid HX
    have hb := hb.below hd1
    have hA := Kept.aft (Kept.below hd1 R.inK) g
    have R := R.below hd1
    clear R2 hd1 h0 hr
    go_upto_region 3 with fail
    refine wp_region_G 11 (fun w' : World => w'.cell? ⟨h, 1, none⟩ = some (.slice A pts.length c) ∧ w'.cell? ⟨q, 0, none⟩ = some (.pointer (some ⟨g, 0, none⟩))) (by kernel_rfl) ?_
    have hd : Below w2.heap.size w2 w2.drew := (Below.refl _ _).drew
    have hA := hA.trans (Kept.aft (Kept.below hd R.inK) g)
    have R := R.drew
    have hb := hb.below hd
    have hqc := hqb.drew
    clear hd hqb k0
    generalize w2.drew = w3 at *
    have o1 := hb.blk.cell 1
    have k0 := hqc.cell 0
    simp at o1 k0
    have hS0 : (fun w' : World => w'.cell? ⟨h, 1, none⟩ = some (.slice A pts.length c) ∧ w'.cell? ⟨q, 0, none⟩ = some (.pointer (some ⟨g, 0, none⟩))) w3 := ⟨o1, k0⟩
    refine wpAnyG_tk 0 hS0 ?_
    simp only [Act.put, List.setIfInBounds_toArray]
    refine wpAnyG_tk 1 hS0 ?_
    simp only [Act.put]
    refine wpAnyG_tk 2 hS0 ?_
    simp only [Act.put]
    refine wpAnyG_tk 3 hS0 ?_
    simp only [Act.put]
    refine wpAnyG_tk 4 hS0 ?_
    simp only [Act.put]
    refine wpAnyG_tk 5 hS0 ?_
    simp only [Act.put]
    clear hS0
    have hcw := comp_walk X E (by omega) R.old
    generalize Tr.compP s T b (fun i => Tr.oneP (Tr.exprP s T b f i)) i = x at *
    refine wpAnyG_on 6 fun C hC => ?_
    go_simp
    ((with_reducible refine hcw.mono ?_))
    clear hcw
    intro e1 w4 h4
    obtain ⟨vp, rfl, hA4, R4, hp4⟩ := h4
    obtain ⟨tp, qp, rfl⟩ := hp4.form
    have hp : PtF w4 (fun x => ¬ K x ∧ x ≠ h ∧ some x ≠ (Value.slice A pts.length c).ownBlock) _ (.iface tp (.pointer (some ⟨qp, 0, none⟩))) := PtF.keep (Nat.le_refl _) (fun x hF _ => ⟨rfl, fun hk => hF (R.inK _ hk), fun e => hF (e ▸ hb.blk.lt), fun e => hF (hb.row_lt _ e.symm)⟩) _ _ hp4
    have hA := hA.trans (hA4.old R.inK)
    have hb := hb.aft hA4 R.ng (fun _ hx => hx)
    have hqd := hqc.aft hA4 hqc.lt hqg
    have R := R.from_old R4 (hA4.old R.inK)
    have o1 := hb.blk.cell 1
    have k0 := hqd.cell 0
    simp at o1 k0
    refine hC.out _ _ (fun _ => ⟨o1, k0⟩) ?_
    clear hC C hA4 R4 hp4 hqc
    refine wpAnyG_on 7 fun C hC => ?_
    go_simp
    refine hC.out _ _ (fun _ => ⟨(cell_alloc _ _ _ _ hb.blk.lt).trans o1, (cell_alloc _ _ _ _ hqd.lt).trans k0⟩) ?_
    clear hC C
    refine wpAnyG_on 8 fun C hC => ?_
    refine step_append_lies _ (by rfl) _ _ _ (by rfl) 0 122 i0 _ 1 16 Tryz.underlying119 ji jz0 jz1 jz2 rfl (by omega) (.slice A pts.length c) pts.length vs (by rfl) (hb.own.alloc (.cells #[.iface tp (.pointer (some ⟨qp, 0, none⟩))] 122)) ⟨w4.heap.size, 0, none⟩ 1 1 [.iface tp (.pointer (some ⟨qp, 0, none⟩))] (by rfl) (by rfl) (World.news_of_block (heap_alloc_new w4 _)) (by simp [Value.oneCell']) (by omega) (by unfold maxLen; omega) (by omega) (Nat.zero_le _) (w4.heap.size + 1) (by simp) ?_
    intro gg cap' w5 hown5 hgrow hat hlt5
    have hpu := hb.push R.inK hp hown5 hgrow hat
    have hg5 := (hb.blk.alloc (.cells #[.iface tp (.pointer (some ⟨qp, 0, none⟩))] 122)).grown hgrow hb.row_ne
    have b1 := hg5.cell 1
    have bf := hg5.frozen 1
    simp at b1
    have hx5 := (hqd.alloc (.cells #[.iface tp (.pointer (some ⟨qp, 0, none⟩))] 122)).grown hgrow (own_ne hb.own hqd (by decide))
    have e0 := hx5.cell 0
    simp at e0
    refine hC.out _ _ (fun _ => ⟨b1, e0⟩) ?_
    clear hC C
    refine wpAnyG_on 9 fun C hC => ?_
    go_simp
    refine hC.out _ _ (fun _ => ⟨b1, e0⟩) ?_
    clear hC C
    refine wpAnyG_on 10 fun C hC => ?_
    go_simp
    refine hC.out _ _ (fun _ => ⟨b1, e0⟩) ?_
    clear hC C
    refine wpAnyG_on 11 fun C hC => ?_
    go_simp
    refine hC.out _ _ (fun h => absurd rfl h) ?_
    clear hC C
    refine wpAnyG_done (by kernel_rfl) ?_ _
    have hB := hpu.1
    have R := R.kept hpu.2
    have hA := hA.trans (hpu.2.aft g)
    clear hb hp o1 hown5 hgrow hat hlt5 hpu hg5 b1 bf
    go_wp2_with fail
    go_end0
    rw [HX.out]
    exact ⟨rfl, hA, R, hB⟩
set_option maxHeartbeats 8000000 in
set_option maxRecDepth 100000 in
theorem expr_last {w : World} {K : Nat → Prop} {g gt : Nat} {s : Bs} {T : List Tk} {b n i : Nat} {h kind at_ : Nat} {pts : List Tr.PT} (X : Txts s T) (hn : n = 65) (R : Rdr w K g gt s T b n i) (hb : Br w K h kind at_ pts) (hl0 : pts.length ≤ 40000000) :
  Calls Tryz.prog 203 #[.pointer (some ⟨g, 0, none⟩), .pointer (some ⟨h, 0, none⟩)] w (StE w K g gt h kind at_ s T b n (pts ++ [.gap Tr.sExpr (Tr.placeP s T b i) true], i)) := by
 obtain ⟨i0, ji, jz0, jz1, jz2⟩ := info_parts infoPart
 obtain ⟨A, c, vs, hb⟩ := hb
 have hgl := R.rs.rd.lt
 have hd0 : Below w.heap.size w (w.alloc (.cells #[.pointer (some ⟨g, 0, none⟩)] 203)) := (Below.refl _ _).alloc (Nat.le_refl _) _
 have hqa : Blk (w.alloc (.cells #[.pointer (some ⟨g, 0, none⟩)] 203)) w.heap.size 203 #[.pointer (some ⟨g, 0, none⟩)] := Blk.new _ _ _
 have hA := Kept.aft (Kept.below hd0 R.inK) g
 have R := R.below hd0
 have hb := hb.below hd0
 obtain ⟨q, hqe⟩ : ∃ x, x = w.heap.size := ⟨_, rfl⟩
 rw [← hqe] at hqa
 unfold Tr.sExpr
 go_enter Tryz.func203, Tryz.ntmps203
 go_upto_region 1 with fail
 rw [← hqe]
 clear hqe hd0
 generalize (w.alloc (.cells #[.pointer (some ⟨g, 0, none⟩)] 203)) = w1 at *
 have k0 := hqa.cell 0
 simp at k0
 obtain ⟨_, _, _, g3⟩ := R.rs.cells
 have n1 : (64 : Int) < (n : Int) := by omega
 have Hn := Lib.hid hn
 clear hn
 go_upto_region 2 with fail
 refine wp_region_G 14 (fun w' : World => w'.cell? ⟨h, 1, none⟩ = some (.slice A pts.length c) ∧ w'.cell? ⟨q, 0, none⟩ = some (.pointer (some ⟨g, 0, none⟩))) (by kernel_rfl) ?_
 have hd : Below w1.heap.size w1 w1.drew := (Below.refl _ _).drew
 have hA := hA.trans (Kept.aft (Kept.below hd R.inK) g)
 have R := R.drew
 have hb := hb.below hd
 have hqc := hqa.drew
 have hpl := place_walk R.rs X.good R.hb (by have := X.hs; omega)
 clear hd hqa k0 g3 n1
 generalize w1.drew = w2 at *
 have o1 := hb.blk.cell 1
 have k0 := hqc.cell 0
 simp at o1 k0
 have hS0 : (fun w' : World => w'.cell? ⟨h, 1, none⟩ = some (.slice A pts.length c) ∧ w'.cell? ⟨q, 0, none⟩ = some (.pointer (some ⟨g, 0, none⟩))) w2 := ⟨o1, k0⟩
 refine wpAnyG_tk 0 hS0 ?_
 simp only [Act.put, List.setIfInBounds_toArray]
 refine wpAnyG_tk 1 hS0 ?_
 simp only [Act.put]
 refine wpAnyG_tk 2 hS0 ?_
 simp only [Act.put]
 refine wpAnyG_tk 3 hS0 ?_
 simp only [Act.put]
 refine wpAnyG_tk 4 hS0 ?_
 simp only [Act.put]
 refine wpAnyG_tk 5 hS0 ?_
 simp only [Act.put]
 clear hS0
 generalize Tr.placeP s T b i = pl at *
 refine wpAnyG_on 6 fun C hC => ?_
 go_simp
 ((with_reducible refine hpl.mono ?_))
 clear hpl
 rintro e1 w3 ⟨rfl, m, rfl⟩
 have hd : Below w2.heap.size w2 (w2.drewN m) := below_drewN (Below.refl _ _) m
 have hA := hA.trans (Kept.aft (Kept.below hd R.inK) g)
 have R := R.below hd
 have hb := hb.below hd
 have hqc := hqc.drewN m
 clear hd
 have o1 : (w2.drewN m).cell? ⟨h, 1, none⟩ = some (.slice A pts.length c) := o1
 have k0 : (w2.drewN m).cell? ⟨q, 0, none⟩ = some (.pointer (some ⟨g, 0, none⟩)) := k0
 refine hC.out _ _ (fun _ => ⟨o1, k0⟩) ?_
 clear hC C
 generalize w2.drewN m = w4 at *
 refine wpAnyG_on 7 fun C hC => ?_
 go_simp
 refine hC.out _ _ (fun _ => ⟨o1, k0⟩) ?_
 clear hC C
 have hd : Below w4.heap.size w4 (w4.alloc (.cells #[.string ⟨#[101, 120, 112, 114, 101, 115, 115, 105, 111, 110]⟩, .int .i64 (pl : Int), .bool true] 308)) := (Below.refl _ _).alloc (Nat.le_refl _) _
 have hBg : Blk (w4.alloc (.cells #[.string ⟨#[101, 120, 112, 114, 101, 115, 115, 105, 111, 110]⟩, .int .i64 (pl : Int), .bool true] 308)) w4.heap.size 308 #[.string ⟨#[101, 120, 112, 114, 101, 115, 115, 105, 111, 110]⟩, .int .i64 (pl : Int), .bool true] := Blk.new _ _ _
 have hA := hA.trans (Kept.aft (Kept.below hd R.inK) g)
 have hp : PtF (w4.alloc (.cells #[.string ⟨#[101, 120, 112, 114, 101, 115, 115, 105, 111, 110]⟩, .int .i64 (pl : Int), .bool true] 308)) (fun x => ¬ K x ∧ x ≠ h ∧ some x ≠ (Value.slice A pts.length c).ownBlock) (.gap [101, 120, 112, 114, 101, 115, 115, 105, 111, 110] pl true) (.iface 176 (.pointer (some ⟨w4.heap.size, 0, none⟩))) :=
  ⟨w4.heap.size, rfl, ⟨fun hk => Nat.lt_irrefl _ (R.inK _ hk), fun e => by have := hb.blk.lt; omega, fun e => by have := hb.row_lt _ e.symm; omega⟩, hBg⟩
 have R := R.below hd
 have hb := hb.below hd
 have hqc := hqc.below hd hqc.lt
 clear hd hBg
 refine wpAnyG_on 8 fun C hC => ?_
 go_simp
 have o1 : (w4.alloc (.cells #[.string ⟨#[101, 120, 112, 114, 101, 115, 115, 105, 111, 110]⟩, .int .i64 (pl : Int), .bool true] 308)).cell? ⟨h, 1, none⟩ = some (.slice A pts.length c) := by
  have := hb.blk.cell 1
  simpa using this
 have k0 : (w4.alloc (.cells #[.string ⟨#[101, 120, 112, 114, 101, 115, 115, 105, 111, 110]⟩, .int .i64 (pl : Int), .bool true] 308)).cell? ⟨q, 0, none⟩ = some (.pointer (some ⟨g, 0, none⟩)) := by
  have := hqc.cell 0
  simpa using this
 refine hC.out _ _ (fun _ => ⟨o1, k0⟩) ?_
 clear hC C
 obtain ⟨qg, hqg⟩ : ∃ x, x = w4.heap.size := ⟨_, rfl⟩
 rw [← hqg] at hp ⊢
 clear hqg
 generalize (w4.alloc (.cells #[.string ⟨#[101, 120, 112, 114, 101, 115, 115, 105, 111, 110]⟩, .int .i64 (pl : Int), .bool true] 308)) = w6 at *
 refine wpAnyG_on 9 fun C hC => ?_
 go_simp
 refine hC.out _ _ (fun _ => ⟨o1, k0⟩) ?_
 clear hC C
 refine wpAnyG_on 10 fun C hC => ?_
 go_simp
 refine hC.out _ _ (fun _ => ⟨(cell_alloc _ _ _ _ hb.blk.lt).trans o1, (cell_alloc _ _ _ _ hqc.lt).trans k0⟩) ?_
 clear hC C
 refine wpAnyG_on 11 fun C hC => ?_
 refine step_append_lies _ (by rfl) _ _ _ (by rfl) 0 122 i0 _ 1 16 Tryz.underlying119 ji jz0 jz1 jz2 rfl (by omega) (.slice A pts.length c) pts.length vs (by rfl) (hb.own.alloc (.cells #[.iface 176 (.pointer (some ⟨qg, 0, none⟩))] 122)) ⟨w6.heap.size, 0, none⟩ 1 1 [.iface 176 (.pointer (some ⟨qg, 0, none⟩))] (by rfl) (by rfl) (World.news_of_block (heap_alloc_new w6 _)) (by simp [Value.oneCell']) (by omega) (by unfold maxLen; omega) (by omega) (Nat.zero_le _) (w6.heap.size + 1) (by simp) ?_
 intro gg cap' w5 hown5 hgrow hat hlt5
 have hpu := hb.push R.inK hp hown5 hgrow hat
 have hg5 := (hb.blk.alloc (.cells #[.iface 176 (.pointer (some ⟨qg, 0, none⟩))] 122)).grown hgrow hb.row_ne
 have b1 := hg5.cell 1
 have bf := hg5.frozen 1
 simp at b1
 have hx5 := (hqc.alloc (.cells #[.iface 176 (.pointer (some ⟨qg, 0, none⟩))] 122)).grown hgrow (own_ne hb.own hqc (by decide))
 have e0 := hx5.cell 0
 simp at e0
 refine hC.out _ _ (fun _ => ⟨b1, e0⟩) ?_
 clear hC C
 refine wpAnyG_on 12 fun C hC => ?_
 go_simp
 refine hC.out _ _ (fun _ => ⟨b1, e0⟩) ?_
 clear hC C
 refine wpAnyG_on 13 fun C hC => ?_
 go_simp
 refine hC.out _ _ (fun _ => ⟨b1, e0⟩) ?_
 clear hC C
 refine wpAnyG_on 14 fun C hC => ?_
 go_simp
 refine hC.out _ _ (fun h => absurd rfl h) ?_
 clear hC C
 refine wpAnyG_done (by kernel_rfl) ?_ _
 have hB := hpu.1
 have R := R.kept hpu.2
 have hA := hA.trans (hpu.2.aft g)
 clear hb hp o1 hown5 hgrow hat hlt5 hpu hg5 b1 bf
 go_wp2_with fail
 go_end0
 exact ⟨rfl, hA, R, hB⟩
theorem expr_all {g gt : Nat} {s : Bs} {T : List Tk} {b : Nat} (X : Txts s T) : ∀ (f n : Nat), n + f = 65 → ExC g gt s T b n (fun i => Tr.oneP (Tr.exprP s T b f i))
 | 0, _, hn => ⟨Tr.expr_adv s T b 0, fun _ _ _ _ _ _ _ R hb hl => expr_last X (by omega) R hb hl⟩
 | f + 1, n, hn => ⟨Tr.expr_adv s T b (f + 1), fun _ _ _ _ _ _ _ R hb hl => expr_step X (expr_all X f (n + 1) (by omega)) (by omega) R hb hl⟩
end Go.Proofs.YtcjjfeephaddcaaGreatDoor
