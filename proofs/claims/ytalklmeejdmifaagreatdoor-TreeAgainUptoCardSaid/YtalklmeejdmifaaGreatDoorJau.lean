/-
  JOINED of the texts DI DJ DL
-/
import Derived.Test.YtalklmeejdmifaaGreatDoorJat
namespace Go.Proofs.YtalklmeejdmifaaGreatDoor
open Go.RowKit
section
variable {w : World} {K : Nat → Prop} {g : Nat} {s : Bs} {T : List Tk} {Ar : Option Addr} {c0 n i : Nat} {cut : Bool} {e : Nat → Tr.St}
theorem params_q {w0 : World} {h kind cc : Nat} {c1 : Bool} {st : Tr.St} (b : Nat) (X : Txq s T) (S : StQ w0 K g h kind s T Ar c0 n i cc c1 st w) (hc : cc ≤ 1000) :
  Calls Tryz.prog 94 #[.pointer (some ⟨g, 0, none⟩), .pointer (some ⟨h, 0, none⟩)] w fun e' w' => e' = .returned (.tuple #[]) ∧ StQ w0 K g h kind s T Ar c0 n i (cc + 1) c1 (Tr.thn st fun i => Tr.oneP (Tr.paramsP s T b i)) w' :=
 (rparams_walk b X S.R S.B (by have := S.len X hc; omega)).mono fun _ _ he => S.step (f := fun i => Tr.oneP (Tr.paramsP s T b i)) (Tr.Adv.one (Tr.params_goes s T b)) he
set_option maxHeartbeats 8000000 in
set_option maxRecDepth 100000 in
theorem rexpr_last (b : Nat) {h kind : Nat} {pts : List Tr.PT} (X : Txq s T) (hn : n = 65) (R : Rdq w K g s T Ar c0 n i cut) (hb : Bn w K h kind pts) (hl : pts.length ≤ 40000000) :
  Calls Tryz.prog 95 #[.pointer (some ⟨g, 0, none⟩), .pointer (some ⟨h, 0, none⟩)] w (StD w K g h kind s T Ar c0 n (cut || Tr.deepsB (Tr.oneP (Tr.exprP s T b 0 i)).1) (Tr.thn (pts, i) fun i => Tr.oneP (Tr.exprP s T b 0 i))) := by
 subst hn
 obtain ⟨i0, ji, jz0, jz1, jz2⟩ := info_parts infoRN
 have HP : Hid ((Tr.thn (pts, i) fun i => Tr.oneP (Tr.exprP s T b 0 i)) = (pts ++ [.gap Tr.sExpr (Tr.placeP s T b i) true], i)) := rfl
 have HD : Hid ((cut || Tr.deepsB (Tr.oneP (Tr.exprP s T b 0 i)).1) = true) := by show _ = _; unfold Tr.exprP Tr.oneP; simp [Tr.deepsB, Tr.deepB]
 rw [HP.out, HD.out]
 clear HP HD
 have his : ∀ (x : Bs) (w' : World), Below w.heap.size w w' → Calls Tryz.prog 90 #[.pointer (some ⟨g, 0, none⟩), .string ⟨x.toArray⟩] w' fun e' w'' => e' = .returned (.bool (Tr.isP s T [x] i)) ∧ Below w.heap.size w w'' := fun x w' hd => (ris_walk X (R.below hd) x).mono fun _ _ h => ⟨h.1, hd.trans (h.2.mono hd.size)⟩
 have hlet := his Tr.sLet w (Below.refl _ _)
 have hif := his Tr.sIf
 have hfun := his Tr.sFun
 clear his
 generalize Tr.isP s T [Tr.sLet] i = v1 at *
 generalize Tr.isP s T [Tr.sIf] i = v2 at *
 generalize Tr.isP s T [Tr.sFun] i = v3 at *
 go_enter Tryz.func95, Tryz.ntmps95
 go_wp2_with fail
 refine hlet.mono ?_
 clear hlet
 rintro e1 w1 ⟨rfl, hd⟩
 have hif := hif w1 hd
 go_wp2_with fail
 refine hif.mono ?_
 clear hif hd
 rintro e1 w2 ⟨rfl, hd⟩
 have hfun := hfun w2 hd
 go_wp2_with fail
 refine hfun.mono ?_
 clear hfun hd
 rintro e1 w3 ⟨rfl, hd⟩
 have hA := Kept.aft (Kept.below hd R.inK) g
 have R := R.below hd
 have hb := hb.below hd
 clear hd
 obtain ⟨_, _, _, g3, g4⟩ := R.cells
 have gf := R.rd.frozen 4
 have hA := hA.set 4 (.bool true)
 have hb := hb.aft ((Aft.refl (Old w3) g w3).set 4 (.bool true)) R.kg
 have R := R.cut_ true
 go_upto_region 5 with fail
 clear g3 g4 gf
 generalize w3.setCell ⟨g, 4, none⟩ (.bool true) = w4 at *
 obtain ⟨fps, A, c, vs, hb⟩ := hb
 have o1 := hb.blk.cell 3
 simp [nodeC] at o1
 have hhl := hb.blk.lt
 go_wp2_with (at_builtin; refine wpList_append_lies _ rfl _ _ 66 rfl 0 33 i0 _ 1 8 Tryz.underlying66 ji jz0 jz1 jz2 rfl (by omega) (.slice A pts.length c) pts.length vs rfl ((hb.own.alloc (.cells #[.int .i64 1, .int .i64 0, .string ⟨#[101, 120, 112, 114, 101, 115, 115, 105, 111, 110]⟩, .slice none 0 0, .int .i64 0, .int .i64 0, .int .i64 0, .int .i64 0, .bool false] 121)).alloc (.cells #[.pointer (some ⟨w4.heap.size, 0, none⟩)] 33)) ⟨w4.heap.size + 1, 0, none⟩ 1 1 [.pointer (some ⟨w4.heap.size, 0, none⟩)] rfl rfl (World.news_of_block (lit2_new w4 _ _)) (by simp [Value.oneCell']) (by omega) (by unfold maxLen; omega) (by omega) (Nat.zero_le _) (w4.heap.size + 1 + 1) (by simp) ?_; intro gg cap' w5 hown5 hgrow hat hlt5; have hpu := rmiss_push (word := Tr.sExpr) (pl := Tr.placeP s T b i) (d := true) R hb hown5 hgrow hat; obtain ⟨b1, bf, hB, hk, R5⟩ := hpu)
 go_end0
 exact ⟨rfl, hA.trans (hk.aft g), R5, hB⟩
set_option maxHeartbeats 8000000 in
set_option maxRecDepth 100000 in
theorem rexpr_step (b f : Nat) {h kind : Nat} {pts : List Tr.PT} (X : Txq s T) (hn : n ≤ 64) (E : ExD 128 g s T Ar c0 n (fun i => Tr.oneP (Tr.exprP s T b f i))) (L : LvD g s T Ar c0 n 0 (Tr.compP s T b (fun i => Tr.oneP (Tr.exprP s T b f i)))) (R : Rdq w K g s T Ar c0 n i cut) (hb : Bn w K h kind pts) (hl : pts.length ≤ 40000000) :
  Calls Tryz.prog 95 #[.pointer (some ⟨g, 0, none⟩), .pointer (some ⟨h, 0, none⟩)] w (StD w K g h kind s T Ar c0 n (cut || Tr.deepsB (Tr.oneP (Tr.exprP s T b (f + 1) i)).1) (Tr.thn (pts, i) fun i => Tr.oneP (Tr.exprP s T b (f + 1) i))) := by
 obtain ⟨i0, ji, jz0, jz1, jz2⟩ := info_parts infoRN
 have HS : Hid (∀ p j, Tr.exprP s T b (f + 1) i = (p, j) → (Tr.thn (pts, i) fun i => Tr.oneP (Tr.exprP s T b (f + 1) i)) = (pts ++ [p], j) ∧ (cut || Tr.deepsB (Tr.oneP (Tr.exprP s T b (f + 1) i)).1) = (cut || Tr.deepB p)) := fun p j h => by
  unfold Tr.thn Tr.oneP
  dsimp only
  rw [h]
  exact ⟨rfl, by simp only [Tr.deepsB, Bool.or_false]⟩
 generalize (Tr.thn (pts, i) fun i => Tr.oneP (Tr.exprP s T b (f + 1) i)) = stx at *
 generalize (cut || Tr.deepsB (Tr.oneP (Tr.exprP s T b (f + 1) i)).1) = cutx at *
 have HE7 : Hid (Tr.isP s T [Tr.sLet] i = true → Tr.exprP s T b (f + 1) i = Tr.letP s T b (fun i => Tr.oneP (Tr.exprP s T b f i)) i) := fun h => by rw [Tr.exprP, if_pos h]
 have HE8' : Hid (Tr.isP s T [Tr.sLet] i = false → Tr.isP s T [Tr.sIf] i = true → Tr.exprP s T b (f + 1) i = Tr.ifP s T b (fun i => Tr.oneP (Tr.exprP s T b f i)) i) := fun h h2 => by rw [Tr.exprP, if_neg (by rw [h]; simp), if_pos h2]
 have HE9' : Hid (Tr.isP s T [Tr.sLet] i = false → Tr.isP s T [Tr.sIf] i = false → Tr.isP s T [Tr.sFun] i = true → Tr.exprP s T b (f + 1) i = Tr.funP s T b (fun i => Tr.oneP (Tr.exprP s T b f i)) i) := fun h h2 h3 => by rw [Tr.exprP, if_neg (by rw [h]; simp), if_neg (by rw [h2]; simp), if_pos h3]
 have HE0' : Hid (Tr.isP s T [Tr.sLet] i = false → Tr.isP s T [Tr.sIf] i = false → Tr.isP s T [Tr.sFun] i = false → Tr.exprP s T b (f + 1) i = Tr.compP s T b (fun i => Tr.oneP (Tr.exprP s T b f i)) i) := fun h h2 h3 => by rw [Tr.exprP, if_neg (by rw [h]; simp), if_neg (by rw [h2]; simp), if_neg (by rw [h3]; simp)]
 have his : ∀ (x : Bs) (w' : World), Below w.heap.size w w' → Calls Tryz.prog 90 #[.pointer (some ⟨g, 0, none⟩), .string ⟨x.toArray⟩] w' fun e' w'' => e' = .returned (.bool (Tr.isP s T [x] i)) ∧ Below w.heap.size w w'' := fun x w' hd => (ris_walk X (R.below hd) x).mono fun _ _ h => ⟨h.1, hd.trans (h.2.mono hd.size)⟩
 have hlet := his Tr.sLet w (Below.refl _ _)
 have hif := his Tr.sIf
 have hfun := his Tr.sFun
 clear his
 generalize Tr.isP s T [Tr.sLet] i = v1 at *
 generalize Tr.isP s T [Tr.sIf] i = v2 at *
 generalize Tr.isP s T [Tr.sFun] i = v3 at *
 go_enter Tryz.func95, Tryz.ntmps95
 go_wp2_with fail
 refine hlet.mono ?_
 clear hlet
 rintro e1 w1 ⟨rfl, hd⟩
 have hif := hif w1 hd
 go_wp2_with fail
 refine hif.mono ?_
 clear hif hd
 rintro e1 w2 ⟨rfl, hd⟩
 have hfun := hfun w2 hd
 go_wp2_with fail
 refine hfun.mono ?_
 clear hfun hd
 rintro e1 w3 ⟨rfl, hd⟩
 have hA := Kept.aft (Kept.below hd R.inK) g
 have R := R.below hd
 have hb := hb.below hd
 clear hd
 obtain ⟨_, _, _, g3, g4⟩ := R.cells
 have gf := R.rd.frozen 4
 have n64 : ¬ (64 : Int) < (n : Int) := by omega
 have hend : ∀ (wl : World) (hp0 : Nat) {p : Tr.PT} {j : Nat} {cut2 : Bool}, Bn w3 K h kind pts → Rdq w3 K g s T Ar c0 n i cut → Aft K g w w3 → Aft (Old w3) g w3 wl → Rdq wl (Old w3) g s T Ar c0 n j cut2 → Rn wl (fun x => ¬ Old w3 x) p (.pointer (some ⟨hp0, 0, none⟩)) →
   ∃ fps A c vs, OBn wl K h kind pts fps A c vs ∧ Aft K g w wl ∧ Rdq wl K g s T Ar c0 n j cut2 ∧ Rnew wl K h pts fps A c p (.pointer (some ⟨hp0, 0, none⟩)) ∧ pts.length ≤ 40000000 := fun wl hp0 p j cut2 hb R hA hA3 R3 hp => by
  obtain ⟨fps, A, c, vs, hb⟩ := hb
  have hA4 := hA3.old R.inK
  exact ⟨fps, A, c, vs, hb.aft hA3 R.kg (fun _ hx => hx), hA.trans hA4, R.from_old R3 hA4, Rnew.of hp R.inK hb, hl⟩
 cases v1 with
 | true =>
  have HE8 : True := trivial
  have HE9 : True := trivial
  have HE0 : True := trivial
  clear HE8' HE9' HE0'
  have HV : Hid (Tr.exprP s T b (f + 1) i = Tr.letP s T b (fun i => Tr.oneP (Tr.exprP s T b f i)) i) := HE7.out rfl
  clear HE7 HE8 HE9 HE0
  have S := (node_q R 0).turned 7
  obtain ⟨hp0, hhp0⟩ : ∃ x, x = w3.heap.size := ⟨_, rfl⟩
  rw [← hhp0] at S
  have hzb : Blk (w3.alloc (.cells #[.int .i64 0, .int .i64 0, .string ⟨#[]⟩, .slice none 0 0, .int .i64 0, .int .i64 0, .int .i64 0, .int .i64 0, .bool false] 121)) hp0 121 #[.int .i64 0, .int .i64 0, .string ⟨#[]⟩, .slice none 0 0, .int .i64 0, .int .i64 0, .int .i64 0, .int .i64 0, .bool false] := by rw [hhp0]; exact Blk.new _ _ _
  go_upto_region 7 with fail
  rw [← hhp0]
  clear hhp0
  have S : StQ w3 (Old w3) g hp0 7 s T Ar c0 n i 0 cut ([], i) ((w3.alloc (.cells #[.int .i64 0, .int .i64 0, .string ⟨#[]⟩, .slice none 0 0, .int .i64 0, .int .i64 0, .int .i64 0, .int .i64 0, .bool false] 121)).setCell ⟨hp0, 0, none⟩ (.int .i64 7)) := S
  generalize w3.alloc (.cells #[.int .i64 0, .int .i64 0, .string ⟨#[]⟩, .slice none 0 0, .int .i64 0, .int .i64 0, .int .i64 0, .int .i64 0, .bool false] 121) = w7 at *
  have z0 := hzb.cell 0
  have zf := hzb.frozen 0
  simp at z0
  clear hzb
  go_upto_region 9 with fail
  clear z0 zf
  generalize w7.setCell ⟨hp0, 0, none⟩ (.int .i64 7) = w8 at *
  have htk := take_q b X S (by omega)
  rw [rthn_nil] at htk
  clear S
  go_wp2_with fail
  refine htk.mono ?_
  clear htk
  rintro e1 w10 ⟨rfl, S⟩
  have htk := name_q b X S (by omega)
  clear S
  go_wp2_with fail
  refine htk.mono ?_
  clear htk
  rintro e1 w11 ⟨rfl, S⟩
  have htk := want_q b X S [61] (by omega)
  clear S
  go_wp2_with fail
  refine htk.mono ?_
  clear htk
  rintro e1 w12 ⟨rfl, S⟩
  have htk := E.step X S (by omega)
  clear S
  go_wp2_with fail
  refine htk.mono ?_
  clear htk
  rintro e1 w13 ⟨rfl, S⟩
  have htk := want_q b X S Tr.sIn (by omega)
  clear S
  go_wp2_with fail
  refine htk.mono ?_
  clear htk
  rintro e1 w14 ⟨rfl, S⟩
  have htk := E.step X S (by omega)
  clear S
  go_wp2_with fail
  refine htk.mono ?_
  clear htk
  rintro e1 w15 ⟨rfl, S⟩
  have hpt := S.B.part (Tr.placeP s T b i)
  have hx := hend w15 hp0 hb R hA S.A S.R hpt
  have hfin := HS.out _ _ HV.out
  have hcx : cutx = _ := hfin.2
  simp only [Tr.deepB] at hcx
  have HF := Lib.hid hfin.1
  have HC := Lib.hid hcx
  clear S hpt hA R hb hfin hcx HV HS hend
  obtain ⟨fps, A, c, vs, hb, hA, R, hp, hl9⟩ := hx
  have o1 := hb.blk.cell 3
  simp [nodeC] at o1
  have hhl := hb.blk.lt
  go_wp2_with (at_builtin; refine wpList_append_lies _ rfl _ _ 66 rfl 0 33 i0 _ 1 8 Tryz.underlying66 ji jz0 jz1 jz2 rfl (by omega) (.slice A pts.length c) pts.length vs rfl (hb.own.alloc (.cells #[.pointer (some ⟨hp0, 0, none⟩)] 33)) ⟨w15.heap.size, 0, none⟩ 1 1 [.pointer (some ⟨hp0, 0, none⟩)] rfl rfl (World.news_of_block (heap_alloc_new w15 _)) (by simp [Value.oneCell']) (by omega) (by unfold maxLen; omega) (by omega) (Nat.zero_le _) (w15.heap.size + 1) (by simp) ?_; intro gg cap' w5 hown5 hgrow hat hlt5; obtain ⟨b1, bf, hB, hk, R5⟩ := node_push R hb hp hown5 hgrow hat)
  go_end0
  rw [HF.out, HC.out]
  exact ⟨rfl, hA.trans (hk.aft g), R5, hB⟩
 | false =>
 have HE8' := HE8'.out rfl
 have HE9' := HE9'.out rfl
 have HE0' := HE0'.out rfl
 cases v2 with
 | true =>
  have HE8 := Lib.hid (fun h => HE8' h)
  have HE9 : True := trivial
  have HE0 : True := trivial
  clear HE8' HE9' HE0'
  have HV : Hid (Tr.exprP s T b (f + 1) i = Tr.ifP s T b (fun i => Tr.oneP (Tr.exprP s T b f i)) i) := HE8.out rfl
  clear HE7 HE8 HE9 HE0
  have S := (node_q R 0).turned 8
  obtain ⟨hp0, hhp0⟩ : ∃ x, x = w3.heap.size := ⟨_, rfl⟩
  rw [← hhp0] at S
  have hzb : Blk (w3.alloc (.cells #[.int .i64 0, .int .i64 0, .string ⟨#[]⟩, .slice none 0 0, .int .i64 0, .int .i64 0, .int .i64 0, .int .i64 0, .bool false] 121)) hp0 121 #[.int .i64 0, .int .i64 0, .string ⟨#[]⟩, .slice none 0 0, .int .i64 0, .int .i64 0, .int .i64 0, .int .i64 0, .bool false] := by rw [hhp0]; exact Blk.new _ _ _
  go_upto_region 7 with fail
  rw [← hhp0]
  clear hhp0
  have S : StQ w3 (Old w3) g hp0 8 s T Ar c0 n i 0 cut ([], i) ((w3.alloc (.cells #[.int .i64 0, .int .i64 0, .string ⟨#[]⟩, .slice none 0 0, .int .i64 0, .int .i64 0, .int .i64 0, .int .i64 0, .bool false] 121)).setCell ⟨hp0, 0, none⟩ (.int .i64 8)) := S
  generalize w3.alloc (.cells #[.int .i64 0, .int .i64 0, .string ⟨#[]⟩, .slice none 0 0, .int .i64 0, .int .i64 0, .int .i64 0, .int .i64 0, .bool false] 121) = w7 at *
  have z0 := hzb.cell 0
  have zf := hzb.frozen 0
  simp at z0
  clear hzb
  go_upto_region 17 with fail
  clear z0 zf
  generalize w7.setCell ⟨hp0, 0, none⟩ (.int .i64 8) = w8 at *
  have htk := take_q b X S (by omega)
  rw [rthn_nil] at htk
  clear S
  go_wp2_with fail
  refine htk.mono ?_
  clear htk
  rintro e1 w10 ⟨rfl, S⟩
  have htk := E.step X S (by omega)
  clear S
  go_wp2_with fail
  refine htk.mono ?_
  clear htk
  rintro e1 w11 ⟨rfl, S⟩
  have htk := want_q b X S Tr.sThen (by omega)
  clear S
  go_wp2_with fail
  refine htk.mono ?_
  clear htk
  rintro e1 w12 ⟨rfl, S⟩
  have htk := E.step X S (by omega)
  clear S
  go_wp2_with fail
  refine htk.mono ?_
  clear htk
  rintro e1 w13 ⟨rfl, S⟩
  have htk := want_q b X S Tr.sElse (by omega)
  clear S
  go_wp2_with fail
  refine htk.mono ?_
  clear htk
  rintro e1 w14 ⟨rfl, S⟩
  have htk := E.step X S (by omega)
  clear S
  go_wp2_with fail
  refine htk.mono ?_
  clear htk
  rintro e1 w15 ⟨rfl, S⟩
  have hpt := S.B.part (Tr.placeP s T b i)
  have hx := hend w15 hp0 hb R hA S.A S.R hpt
  have hfin := HS.out _ _ HV.out
  have hcx : cutx = _ := hfin.2
  simp only [Tr.deepB] at hcx
  have HF := Lib.hid hfin.1
  have HC := Lib.hid hcx
  clear S hpt hA R hb hfin hcx HV HS hend
  obtain ⟨fps, A, c, vs, hb, hA, R, hp, hl9⟩ := hx
  have o1 := hb.blk.cell 3
  simp [nodeC] at o1
  have hhl := hb.blk.lt
  go_wp2_with (at_builtin; refine wpList_append_lies _ rfl _ _ 66 rfl 0 33 i0 _ 1 8 Tryz.underlying66 ji jz0 jz1 jz2 rfl (by omega) (.slice A pts.length c) pts.length vs rfl (hb.own.alloc (.cells #[.pointer (some ⟨hp0, 0, none⟩)] 33)) ⟨w15.heap.size, 0, none⟩ 1 1 [.pointer (some ⟨hp0, 0, none⟩)] rfl rfl (World.news_of_block (heap_alloc_new w15 _)) (by simp [Value.oneCell']) (by omega) (by unfold maxLen; omega) (by omega) (Nat.zero_le _) (w15.heap.size + 1) (by simp) ?_; intro gg cap' w5 hown5 hgrow hat hlt5; obtain ⟨b1, bf, hB, hk, R5⟩ := node_push R hb hp hown5 hgrow hat)
  go_end0
  rw [HF.out, HC.out]
  exact ⟨rfl, hA.trans (hk.aft g), R5, hB⟩
 | false =>
 have HE9' := HE9' rfl
 have HE0' := HE0' rfl
 cases v3 with
 | true =>
  have HE8 : True := trivial
  have HE9 := Lib.hid (fun h => HE9' h)
  have HE0 : True := trivial
  clear HE8' HE9' HE0'
  have HV : Hid (Tr.exprP s T b (f + 1) i = Tr.funP s T b (fun i => Tr.oneP (Tr.exprP s T b f i)) i) := HE9.out rfl
  clear HE7 HE8 HE9 HE0
  have S := (node_q R 0).turned 9
  obtain ⟨hp0, hhp0⟩ : ∃ x, x = w3.heap.size := ⟨_, rfl⟩
  rw [← hhp0] at S
  have hzb : Blk (w3.alloc (.cells #[.int .i64 0, .int .i64 0, .string ⟨#[]⟩, .slice none 0 0, .int .i64 0, .int .i64 0, .int .i64 0, .int .i64 0, .bool false] 121)) hp0 121 #[.int .i64 0, .int .i64 0, .string ⟨#[]⟩, .slice none 0 0, .int .i64 0, .int .i64 0, .int .i64 0, .int .i64 0, .bool false] := by rw [hhp0]; exact Blk.new _ _ _
  go_upto_region 7 with fail
  rw [← hhp0]
  clear hhp0
  have S : StQ w3 (Old w3) g hp0 9 s T Ar c0 n i 0 cut ([], i) ((w3.alloc (.cells #[.int .i64 0, .int .i64 0, .string ⟨#[]⟩, .slice none 0 0, .int .i64 0, .int .i64 0, .int .i64 0, .int .i64 0, .bool false] 121)).setCell ⟨hp0, 0, none⟩ (.int .i64 9)) := S
  generalize w3.alloc (.cells #[.int .i64 0, .int .i64 0, .string ⟨#[]⟩, .slice none 0 0, .int .i64 0, .int .i64 0, .int .i64 0, .int .i64 0, .bool false] 121) = w7 at *
  have z0 := hzb.cell 0
  have zf := hzb.frozen 0
  simp at z0
  clear hzb
  go_upto_region 25 with fail
  clear z0 zf
  generalize w7.setCell ⟨hp0, 0, none⟩ (.int .i64 9) = w8 at *
  have htk := take_q b X S (by omega)
  rw [rthn_nil] at htk
  clear S
  go_wp2_with fail
  refine htk.mono ?_
  clear htk
  rintro e1 w10 ⟨rfl, S⟩
  have htk := params_q b X S (by omega)
  clear S
  go_wp2_with fail
  refine htk.mono ?_
  clear htk
  rintro e1 w11 ⟨rfl, S⟩
  have htk := want_q b X S [61, 62] (by omega)
  clear S
  go_wp2_with fail
  refine htk.mono ?_
  clear htk
  rintro e1 w12 ⟨rfl, S⟩
  have htk := E.step X S (by omega)
  clear S
  go_wp2_with fail
  refine htk.mono ?_
  clear htk
  rintro e1 w13 ⟨rfl, S⟩
  have hpt := S.B.part (Tr.placeP s T b i)
  have hx := hend w13 hp0 hb R hA S.A S.R hpt
  have hfin := HS.out _ _ HV.out
  have hcx : cutx = _ := hfin.2
  simp only [Tr.deepB] at hcx
  have HF := Lib.hid hfin.1
  have HC := Lib.hid hcx
  clear S hpt hA R hb hfin hcx HV HS hend
  obtain ⟨fps, A, c, vs, hb, hA, R, hp, hl9⟩ := hx
  have o1 := hb.blk.cell 3
  simp [nodeC] at o1
  have hhl := hb.blk.lt
  go_wp2_with (at_builtin; refine wpList_append_lies _ rfl _ _ 66 rfl 0 33 i0 _ 1 8 Tryz.underlying66 ji jz0 jz1 jz2 rfl (by omega) (.slice A pts.length c) pts.length vs rfl (hb.own.alloc (.cells #[.pointer (some ⟨hp0, 0, none⟩)] 33)) ⟨w13.heap.size, 0, none⟩ 1 1 [.pointer (some ⟨hp0, 0, none⟩)] rfl rfl (World.news_of_block (heap_alloc_new w13 _)) (by simp [Value.oneCell']) (by omega) (by unfold maxLen; omega) (by omega) (Nat.zero_le _) (w13.heap.size + 1) (by simp) ?_; intro gg cap' w5 hown5 hgrow hat hlt5; obtain ⟨b1, bf, hB, hk, R5⟩ := node_push R hb hp hown5 hgrow hat)
  go_end0
  rw [HF.out, HC.out]
  exact ⟨rfl, hA.trans (hk.aft g), R5, hB⟩
 | false =>
  have HV := Lib.hid (HE0' rfl)
  clear HE7 HE8' HE9' HE0'
  have hd : Below w3.heap.size w3 (w3.alloc (.cells #[.int .i64 0, .int .i64 0, .string ⟨#[]⟩, .slice none 0 0, .int .i64 0, .int .i64 0, .int .i64 0, .int .i64 0, .bool false] 121)) := (Below.refl _ _).alloc (Nat.le_refl _) _
  have hA := hA.trans (Kept.aft (Kept.below hd R.inK) g)
  have R := R.below hd
  have hb := hb.below hd
  clear hd hend
  go_upto_region 29 with fail
  clear g3 g4 gf
  generalize w3.alloc (.cells #[.int .i64 0, .int .i64 0, .string ⟨#[]⟩, .slice none 0 0, .int .i64 0, .int .i64 0, .int .i64 0, .int .i64 0, .bool false] 121) = w4 at *
  have hL : Calls Tryz.prog 129 #[.pointer (some ⟨g, 0, none⟩), .int .i64 0] w4 (PtQ w4 (Old w4) g s T Ar c0 n cut (Tr.compP s T b (fun i => Tr.oneP (Tr.exprP s T b f i)) i)) := L.calls w4 _ i _ R.old
  have hfin := HS.out (Tr.compP s T b (fun i => Tr.oneP (Tr.exprP s T b f i)) i).1 (Tr.compP s T b (fun i => Tr.oneP (Tr.exprP s T b f i)) i).2 HV.out
  have HF := Lib.hid hfin.1
  have HC := Lib.hid hfin.2
  clear hfin HS HV
  generalize Tr.compP s T b (fun i => Tr.oneP (Tr.exprP s T b f i)) i = y at *
  go_wp2_with fail
  refine hL.mono ?_
  clear hL
  intro e1 w6 h6
  obtain ⟨hp0, rfl, hA6, R6, hu⟩ := h6
  obtain ⟨fps, A, c, vs, hb⟩ := hb
  have hp := Rnew.of hu R.inK hb
  have hb := hb.aft hA6 R.kg (fun _ hx => hx)
  have hA6 := hA6.old R.inK
  have R := R.from_old R6 hA6
  have hA := hA.trans hA6
  clear hA6 R6 hu
  have o1 := hb.blk.cell 3
  simp [nodeC] at o1
  have hhl := hb.blk.lt
  go_wp2_with (at_builtin; refine wpList_append_lies _ rfl _ _ 66 rfl 0 33 i0 _ 1 8 Tryz.underlying66 ji jz0 jz1 jz2 rfl (by omega) (.slice A pts.length c) pts.length vs rfl (hb.own.alloc (.cells #[.pointer (some ⟨hp0, 0, none⟩)] 33)) ⟨w6.heap.size, 0, none⟩ 1 1 [.pointer (some ⟨hp0, 0, none⟩)] rfl rfl (World.news_of_block (heap_alloc_new w6 _)) (by simp [Value.oneCell']) (by omega) (by unfold maxLen; omega) (by omega) (Nat.zero_le _) (w6.heap.size + 1) (by simp) ?_; intro gg cap' w5 hown5 hgrow hat hlt5; obtain ⟨b1, bf, hB, hk, R5⟩ := node_push R hb hp hown5 hgrow hat)
  go_end0
  rw [HF.out, HC.out]
  exact ⟨rfl, hA.trans (hk.aft g), R5, hB⟩
set_option maxHeartbeats 4000000 in
set_option maxRecDepth 100000 in
theorem rlevel3_walk (b : Nat) (hcl : Calls Tryz.prog 161 #[.pointer (some ⟨g, 0, none⟩)] w (PtQ w K g s T Ar c0 n cut (Tr.callP s T b e i))) :
  Calls Tryz.prog 129 #[.pointer (some ⟨g, 0, none⟩), .int .i64 3] w (PtQ w K g s T Ar c0 n cut (Tr.callP s T b e i)) := by
 generalize Tr.callP s T b e i = r at *
 go_enter Tryz.func129, Tryz.ntmps129
 go_wp2_with fail
 refine hcl.mono ?_
 clear hcl
 intro e1 w1 h1
 obtain ⟨q, rfl, h2⟩ := h1
 go_wp2_with fail
 go_ret
 exact ⟨q, rfl, h2⟩
theorem rexpr_all (b : Nat) (X : Txq s T) (hW : Plainly s T) : ∀ (f n : Nat), n + f = 65 → ExD 95 g s T Ar c0 n (fun i => Tr.oneP (Tr.exprP s T b f i))
 | 0, _, hn => ⟨Tr.expr_adv s T b 0, fun _ _ _ _ _ _ _ R hb hl => rexpr_last b X (by omega) R hb hl⟩
 | f + 1, n, hn => by
  have E := rpart_walk (by omega) (rexpr_all b X hW f (n + 1) (by omega))
  have L3 : LvD g s T Ar c0 n 3 (Tr.callP s T b (fun i => Tr.oneP (Tr.exprP s T b f i))) := ⟨Tr.call_goes s T b E.adv, fun w K i cut R => rlevel3_walk b (rcall_walk b X E R (rone3_walk b X hW E R))⟩
  have L0 := rlevel0_walk b X (rlevel1_walk b X (rlevel2_walk b X L3))
  exact ⟨Tr.expr_adv s T b (f + 1), fun _ _ _ _ _ _ _ R hb hl => rexpr_step b f X (by omega) E L0 R hb hl⟩
end
section
variable {w : World} {K : Nat → Prop} {g : Nat} {s : Bs} {T : List Tk} {Ar : Option Addr} {c0 n i : Nat} {cut : Bool}
theorem tr_kind0 {s : Bs} {T : List Tk} (hG : Tr.Good s T) (i : Nat) : Tr.kindP T (Tr.nextP T i) = 0 ↔ ¬ Tr.nextP T i < T.length := by
 constructor
 ·intro h hlt
  rw [Tr.kind_at T _ hlt] at h
  have := (hG.in_ _ (List.getElem_mem hlt)).2.1
  omega
 ·intro h
  exact Tr.kind_end T _ (by omega)
theorem starts_q {w0 : World} {h kind cc : Nat} {c1 : Bool} {st : Tr.St} (X : Txq s T) (S : StQ w0 K g h kind s T Ar c0 n i cc c1 st w) :
  Calls Tryz.prog 89 #[.pointer (some ⟨g, 0, none⟩)] w fun e w' => e = .returned (.bool (Tr.startP s T st.2)) ∧ StQ w0 K g h kind s T Ar c0 n i cc c1 st w' :=
 (rstarts_walk X S.R).mono fun _ _ ⟨h1, h2⟩ => ⟨h1, S.below h2⟩
theorem kind_q {w0 : World} {h kind cc : Nat} {c1 : Bool} {st : Tr.St} (X : Txq s T) (S : StQ w0 K g h kind s T Ar c0 n i cc c1 st w) :
  Calls Tryz.prog 51 #[.pointer (some ⟨g, 0, none⟩)] w fun e w' => e = .returned (.int .i64 (Tr.kindP T (Tr.nextP T st.2) : Int)) ∧ StQ w0 K g h kind s T Ar c0 n i cc c1 st w' :=
 (rkindn_walk X S.R).mono fun _ _ ⟨h1, h2⟩ => ⟨h1, h2 ▸ S⟩
theorem StQ.zero {w0 : World} {h kind cc : Nat} {c1 : Bool} {st : Tr.St} (S : StQ w0 K g h kind s T Ar c0 n i cc c1 st w) : StQ w0 K g h kind s T Ar c0 0 i cc c1 st (w.setCell ⟨g, 3, none⟩ (.int .i64 0)) :=
 ⟨S.A.set 3 _, S.R.deep 0, S.B.aft ((Aft.refl (Old w) g w).set 3 _) S.R.kg, S.ok⟩
set_option maxHeartbeats 8000000 in
set_option maxRecDepth 100000 in
theorem ritem_walk (X : Txq s T) (hW : Plainly s T) (R : Rdq w K g s T Ar c0 0 i cut) (hi : Tr.nextP T i < T.length) :
  Calls Tryz.prog 52 #[.pointer (some ⟨g, 0, none⟩)] w (PtQ w K g s T Ar c0 0 cut (Tr.kidP s T i)) := by
 refine Calls.mono ?_ fun _ _ h => PtQ.old R h
 have R := R.old
 obtain ⟨b, hb⟩ : ∃ b, b = Tr.absP s T i := ⟨_, rfl⟩
 have HK1 : Hid (Tr.startP s T i = true → Tr.kidP s T i = Tr.itemP s T b i) := fun h => by unfold Tr.kidP; rw [if_pos h, hb]
 have HK0 : Hid (Tr.startP s T i = false → Tr.kidP s T i = Tr.junkP s T b i) := fun h => by unfold Tr.kidP; rw [if_neg (by rw [h]; simp), hb]
 clear hb
 have S : StQ w (Old w) g w.heap.size 5 s T Ar c0 0 i 0 cut ([], i) (w.alloc (.cells #[.int .i64 5, .int .i64 0, .string ⟨#[]⟩, .slice none 0 0, .int .i64 0, .int .i64 0, .int .i64 0, .int .i64 0, .bool false] 121)) := node_q R 5
 generalize Tr.kidP s T i = r at *
 have hfin : ∀ (w8 : World) (hp0 k cc : Nat) (st : Tr.St) (e' : Ending), e' = .returned (.pointer (some ⟨hp0, 0, none⟩)) → StQ w (Old w) g hp0 k s T Ar c0 0 i cc cut st w8 → r = Tr.brP s T b k i st → PtQ w (Old w) g s T Ar c0 0 cut r e' w8 := fun w8 hp0 k cc st e' he S hr => by
  refine ⟨hp0, he, S.A, ?_, ?_⟩
  ·rw [hr]
   have e2 : Tr.deepB (Tr.brP s T b k i st).1 = Tr.deepsB st.1 := by unfold Tr.brP; simp only [Tr.deepB]
   rw [e2]; exact S.R
  ·rw [hr]
   exact S.B.part (Tr.placeP s T b i)
 obtain ⟨hp0, hhp0⟩ : ∃ x, x = w.heap.size := ⟨_, rfl⟩
 rw [← hhp0] at S
 have HP : ∀ y : Tr.St, y = Tr.pubP s T b i → Hid (Tr.itemP s T b i = if Tr.isP s T [Tr.sUse] y.2 then Tr.brP s T b 3 i (Tr.useP s T b y) else Tr.brP s T b 4 i (Tr.defP s T b y)) := fun y hy => by subst hy; show _ = _; rfl
 clear R
 go_enter Tryz.func52, Tryz.ntmps52
 go_upto_region 2 with fail
 rw [← hhp0]
 clear hhp0
 generalize w.alloc (.cells #[.int .i64 5, .int .i64 0, .string ⟨#[]⟩, .slice none 0 0, .int .i64 0, .int .i64 0, .int .i64 0, .int .i64 0, .bool false] 121) = w1 at *
 have hst := starts_q X S
 clear S
 have Hi := Lib.hid hi
 clear hi
 dsimp only at hst
 generalize hvs : Tr.startP s T i = vs at *
 go_wp2_with fail
 refine hst.mono ?_
 clear hst
 rintro e1 w2 ⟨rfl, S⟩
 cases vs with
 | false =>
  have HV := Lib.hid (HK0.out rfl)
  clear HK1 HK0 HP
  have hj0 := Tr.junks_step s T b false ([], i) S.ok.2.1 ⟨rfl, Hi.out, hvs⟩
  have HJ : Hid (r = Tr.brP s T b 5 i (Tr.junksP s T b (T.length + 1) (Tr.isP s T [[59]] i) (Tr.thn ([], i) (Tr.takeP s T b)))) := by show _ = _; rw [HV.out]; unfold Tr.junkP; rw [hj0]
  clear hj0 HV hvs
  go_wp2_with fail
  go_loopg [4, 5, 6] (T.length - i) (fun q v u z wr => ∃ y : Tr.St, T.length - y.2 ≤ q ∧ Hid (Tr.nextP T y.2 < T.length) ∧ Hid (r = Tr.brP s T b 5 i (Tr.junksP s T b (T.length + 1) (Tr.isP s T [[59]] y.2) (Tr.thn y (Tr.takeP s T b)))) ∧ StQ w (Old w) g hp0 5 s T Ar c0 0 i 0 cut y wr)
  case atStart => exact ⟨([], i), Nat.le_refl _, Hi, HJ, S⟩
  case round =>
   clear S HJ Hi
   obtain ⟨y, hq, Hi, HJ, S⟩ := hrel
   have his := is_q X S [59]
   have hadv := Tr.take_st s T b y S.ok.2.1 Hi.out
   generalize Tr.isP s T [[59]] y.2 = v1 at *
   clear S
   go_wp2_with fail
   refine his.mono ?_
   clear his
   rintro e1 w3 ⟨rfl, S⟩
   have htk := take_q b X S (by omega)
   clear S
   generalize Tr.thn y (Tr.takeP s T b) = z at *
   obtain ⟨hz1, hz2, hz3⟩ := hadv
   have Hz1 := Lib.hid hz1
   clear hz1 hz3
   go_wp2_with fail
   refine htk.mono ?_
   clear htk
   rintro e1 w4 ⟨rfl, S⟩
   have hkd := kind_q X S
   clear S
   have HK := Lib.hid (tr_kind0 X.good z.2)
   generalize Tr.kindP T (Tr.nextP T z.2) = kd at *
   go_wp2_with fail
   refine hkd.mono ?_
   clear hkd
   rintro e1 w5 ⟨rfl, S⟩
   have hst := starts_q X S
   clear S
   have HS : Hid (v1 = false → Tr.nextP T z.2 < T.length → Tr.startP s T z.2 = false → r = Tr.brP s T b 5 i (Tr.junksP s T b (T.length + 1) (Tr.isP s T [[59]] z.2) (Tr.thn z (Tr.takeP s T b)))) := fun h1 h2 h3 => by rw [HJ.out, Tr.junks_step s T b v1 z hz2 ⟨h1, h2, h3⟩]
   have HE : Hid (¬ (v1 = false ∧ Tr.nextP T z.2 < T.length ∧ Tr.startP s T z.2 = false) → r = Tr.brP s T b 5 i z) := fun h => by rw [HJ.out, Tr.junks_stop s T b v1 z h]
   clear HJ
   generalize Tr.startP s T z.2 = v2 at *
   go_wp2_with fail
   refine hst.mono ?_
   clear hst
   rintro e1 w6 ⟨rfl, S⟩
   cases v1 with
   | true =>
    have HV := Lib.hid (HE.out (fun h => by simp at h))
    clear HE HS HK
    go_wp2_with fail
    go_ret
    exact hfin w6 hp0 5 _ z _ rfl S HV.out
   | false =>
   cases v2 with
   | true =>
    have HV := Lib.hid (HE.out (fun h => by simp at h))
    clear HE HS HK
    go_wp2_with fail
    go_ret
    exact hfin w6 hp0 5 _ z _ rfl S HV.out
   | false =>
   by_cases k0 : kd = 0
   ·have HV := Lib.hid (HE.out (fun h => (HK.out.1 k0) h.2.1))
    clear HE HS HK
    subst k0
    go_wp2_with fail
    go_ret
    exact hfin w6 hp0 5 _ z _ rfl S HV.out
   ·have hnx : Tr.nextP T z.2 < T.length := Classical.byContradiction fun h => k0 (HK.out.2 h)
    have HJ := Lib.hid (HS.out rfl hnx rfl)
    have Hnx := Lib.hid hnx
    have e0 : ((kd : Int) == 0) = false := by simp; omega
    clear HE HS HK k0 hnx hfin
    go_wp2_with fail
    go_roundg (T.length - z.2)
    case rel => exact ⟨z, Nat.le_refl _, Hnx, HJ, S⟩
    case measure => have := Hz1.out; omega
 | true =>
  have HV := Lib.hid (HK1.out rfl)
  clear HK1 HK0 hvs Hi
  obtain ⟨_, _, _, g3, _⟩ := S.R.cells
  have gf := S.R.rd.frozen 3
  have S := S.zero
  go_upto_region 11 with fail
  clear g3 gf
  generalize w2.setCell ⟨g, 3, none⟩ (.int .i64 0) = w3 at *
  have his := is_q X S Tr.sPub
  clear S
  have Hpt : Hid (Tr.isP s T [Tr.sPub] i = true → Tr.thn ([], i) (Tr.takeP s T b) = Tr.pubP s T b i) := fun h => by unfold Tr.pubP; rw [if_pos h, rthn_nil]
  have Hpf : Hid (Tr.isP s T [Tr.sPub] i = false → ([], i) = Tr.pubP s T b i) := fun h => by unfold Tr.pubP; rw [if_neg (by rw [h]; simp)]
  have HP := HP _ rfl
  generalize Tr.pubP s T b i = pb at *
  dsimp only at his
  generalize Tr.isP s T [Tr.sPub] i = v1 at *
  go_wp2_with fail
  refine his.mono ?_
  clear his
  rintro e1 w4 ⟨rfl, S⟩
  go_upto_if 40 with fail
  go_cut [40] (fun _ wc => StQ w (Old w) g hp0 5 s T Ar c0 0 i 0 cut pb wc)
  case first =>
   cases v1 with
   | true =>
    have h := Hpt.out rfl
    have htk := take_q b X S (by omega)
    rw [h] at htk
    clear S Hpt Hpf h
    go_wp2_with fail
    refine htk.mono ?_
    clear htk
    rintro e1 w5 ⟨rfl, S⟩
    go_wp2_with fail
    go_meet
    exact S
   | false =>
    have h := Hpf.out rfl
    rw [h] at S
    clear Hpt Hpf h
    go_wp2_with fail
    go_meet
    exact S
  case rest =>
  clear S Hpt Hpf
  have S := hcut
  clear hcut
  have his := is_q X S Tr.sUse
  clear S
  generalize Tr.isP s T [Tr.sUse] pb.2 = v2 at *
  go_wp2_with fail
  refine his.mono ?_
  clear his
  rintro e1 w5 ⟨rfl, S⟩
  cases v2 with
  | true =>
   have HV2 : Hid (r = Tr.brP s T b 3 i (Tr.useP s T b pb)) := by show _ = _; rw [HV.out, HP.out]; rfl
   clear HV HP
   obtain ⟨fps, A, c, vs, hb⟩ := S.B
   have z0 := hb.blk.cell 0
   have zf := hb.blk.frozen 0
   simp [nodeC] at z0
   have S := S.turned 3
   clear hb
   go_upto_region 17 with fail
   have S : StQ w (Old w) g hp0 3 s T Ar c0 0 i 0 cut pb (w5.setCell ⟨hp0, 0, none⟩ (.int .i64 3)) := S
   clear z0 zf
   generalize w5.setCell ⟨hp0, 0, none⟩ (.int .i64 3) = w6 at *
   have htk := want_q b X S Tr.sUse (by omega)
   clear S
   go_wp2_with fail
   refine htk.mono ?_
   clear htk
   rintro e1 w7 ⟨rfl, S⟩
   have htk := name_q b X S (by omega)
   clear S
   go_wp2_with fail
   refine htk.mono ?_
   clear htk
   rintro e1 w8 ⟨rfl, S⟩
   have htk := want_q b X S [46] (by omega)
   clear S
   go_wp2_with fail
   refine htk.mono ?_
   clear htk
   rintro e1 w9 ⟨rfl, S⟩
   have htk := name_q b X S (by omega)
   clear S
   go_wp2_with fail
   refine htk.mono ?_
   clear htk
   rintro e1 w10 ⟨rfl, S⟩
   have HU : Hid (Tr.useP s T b pb = Tr.thn (if Tr.isP s T [Tr.sAs] (Tr.thn (Tr.thn (Tr.thn (Tr.thn pb (Tr.wantP s T b Tr.sUse)) (Tr.nameP s T b)) (Tr.wantP s T b [46])) (Tr.nameP s T b)).2 then Tr.thn (Tr.thn (Tr.thn (Tr.thn (Tr.thn (Tr.thn pb (Tr.wantP s T b Tr.sUse)) (Tr.nameP s T b)) (Tr.wantP s T b [46])) (Tr.nameP s T b)) (Tr.takeP s T b)) (Tr.nameP s T b) else (Tr.thn (Tr.thn (Tr.thn (Tr.thn pb (Tr.wantP s T b Tr.sUse)) (Tr.nameP s T b)) (Tr.wantP s T b [46])) (Tr.nameP s T b))) (Tr.wantP s T b [59])) := rfl
   generalize (Tr.thn (Tr.thn (Tr.thn (Tr.thn pb (Tr.wantP s T b Tr.sUse)) (Tr.nameP s T b)) (Tr.wantP s T b [46])) (Tr.nameP s T b)) = u at *
   have Hut : Hid (Tr.isP s T [Tr.sAs] u.2 = true → Tr.thn (Tr.thn u (Tr.takeP s T b)) (Tr.nameP s T b) = (if Tr.isP s T [Tr.sAs] u.2 then Tr.thn (Tr.thn u (Tr.takeP s T b)) (Tr.nameP s T b) else u)) := fun h => by rw [if_pos h]
   have Huf : Hid (Tr.isP s T [Tr.sAs] u.2 = false → u = (if Tr.isP s T [Tr.sAs] u.2 then Tr.thn (Tr.thn u (Tr.takeP s T b)) (Tr.nameP s T b) else u)) := fun h => by rw [if_neg (by rw [h]; simp)]
   generalize (if Tr.isP s T [Tr.sAs] u.2 then Tr.thn (Tr.thn u (Tr.takeP s T b)) (Tr.nameP s T b) else u) = u2 at *
   have his := is_q X S Tr.sAs
   clear S
   generalize Tr.isP s T [Tr.sAs] u.2 = v3 at *
   go_wp2_with fail
   refine his.mono ?_
   clear his
   rintro e1 w11 ⟨rfl, S⟩
   go_upto_if 64 with fail
   go_cut [64] (fun _ wc => StQ w (Old w) g hp0 3 s T Ar c0 0 i 100 cut u2 wc)
   case first =>
    cases v3 with
    | true =>
     have h := Hut.out rfl
     clear Hut Huf
     have htk := take_q b X S (by omega)
     clear S
     go_wp2_with fail
     refine htk.mono ?_
     clear htk
     rintro e1 w12 ⟨rfl, S⟩
     have htk := name_q b X S (by omega)
     rw [h] at htk
     clear S h
     go_wp2_with fail
     refine htk.mono ?_
     clear htk
     rintro e1 w13 ⟨rfl, S⟩
     go_wp2_with fail
     go_meet
     exact S.mono (by omega)
    | false =>
     have h := Huf.out rfl
     rw [h] at S
     clear Hut Huf h
     go_wp2_with fail
     go_meet
     exact S.mono (by omega)
   case rest =>
   clear S Hut Huf
   have S := hcut
   clear hcut
   have htk := want_q b X S [59] (by omega)
   clear S
   go_wp2_with fail
   refine htk.mono ?_
   clear htk
   rintro e1 w12 ⟨rfl, S⟩
   rw [← HU.out] at S
   go_wp2_with fail
   go_ret
   exact hfin _ hp0 3 _ _ _ rfl S HV2.out
  | false =>
   have HV2 : Hid (r = Tr.brP s T b 4 i (Tr.defP s T b pb)) := by show _ = _; rw [HV.out, HP.out]; rfl
   clear HV HP
   obtain ⟨fps, A, c, vs, hb⟩ := S.B
   have z0 := hb.blk.cell 0
   have zf := hb.blk.frozen 0
   simp [nodeC] at z0
   have S := S.turned 4
   clear hb
   go_upto_region 28 with fail
   have S : StQ w (Old w) g hp0 4 s T Ar c0 0 i 0 cut pb (w5.setCell ⟨hp0, 0, none⟩ (.int .i64 4)) := S
   clear z0 zf
   generalize w5.setCell ⟨hp0, 0, none⟩ (.int .i64 4) = w6 at *
   have htk := want_q b X S Tr.sDef (by omega)
   clear S
   go_wp2_with fail
   refine htk.mono ?_
   clear htk
   rintro e1 w7 ⟨rfl, S⟩
   have htk := name_q b X S (by omega)
   clear S
   go_wp2_with fail
   refine htk.mono ?_
   clear htk
   rintro e1 w8 ⟨rfl, S⟩
   have HU : Hid (Tr.defP s T b pb = Tr.thn (Tr.thn (Tr.thn (if Tr.isP s T [[40]] (Tr.thn (Tr.thn pb (Tr.wantP s T b Tr.sDef)) (Tr.nameP s T b)).2 then Tr.thn (Tr.thn (Tr.thn pb (Tr.wantP s T b Tr.sDef)) (Tr.nameP s T b)) (fun i => Tr.oneP (Tr.paramsP s T b i)) else (Tr.thn (Tr.thn pb (Tr.wantP s T b Tr.sDef)) (Tr.nameP s T b))) (Tr.wantP s T b [61])) (fun i => Tr.oneP (Tr.exprP s T b 65 i))) (Tr.wantP s T b [59])) := rfl
   generalize (Tr.thn (Tr.thn pb (Tr.wantP s T b Tr.sDef)) (Tr.nameP s T b)) = u at *
   have Hut : Hid (Tr.isP s T [[40]] u.2 = true → Tr.thn u (fun i => Tr.oneP (Tr.paramsP s T b i)) = (if Tr.isP s T [[40]] u.2 then Tr.thn u (fun i => Tr.oneP (Tr.paramsP s T b i)) else u)) := fun h => by rw [if_pos h]
   have Huf : Hid (Tr.isP s T [[40]] u.2 = false → u = (if Tr.isP s T [[40]] u.2 then Tr.thn u (fun i => Tr.oneP (Tr.paramsP s T b i)) else u)) := fun h => by rw [if_neg (by rw [h]; simp)]
   generalize (if Tr.isP s T [[40]] u.2 then Tr.thn u (fun i => Tr.oneP (Tr.paramsP s T b i)) else u) = u2 at *
   have his := is_q X S [40]
   clear S
   generalize Tr.isP s T [[40]] u.2 = v3 at *
   go_wp2_with fail
   refine his.mono ?_
   clear his
   rintro e1 w11 ⟨rfl, S⟩
   go_upto_if 86 with fail
   go_cut [86] (fun _ wc => StQ w (Old w) g hp0 4 s T Ar c0 0 i 100 cut u2 wc)
   case first =>
    cases v3 with
    | true =>
     have h := Hut.out rfl
     clear Hut Huf
     have htk := params_q b X S (by omega)
     rw [h] at htk
     clear S h
     go_wp2_with fail
     refine htk.mono ?_
     clear htk
     rintro e1 w13 ⟨rfl, S⟩
     go_wp2_with fail
     go_meet
     exact S.mono (by omega)
    | false =>
     have h := Huf.out rfl
     rw [h] at S
     clear Hut Huf h
     go_wp2_with fail
     go_meet
     exact S.mono (by omega)
   case rest =>
   clear S Hut Huf
   have S := hcut
   clear hcut
   have htk := want_q b X S [61] (by omega)
   clear S
   go_wp2_with fail
   refine htk.mono ?_
   clear htk
   rintro e1 w12 ⟨rfl, S⟩
   have htk := (rexpr_all (s := s) (T := T) (g := g) (Ar := Ar) (c0 := c0) b X hW 65 0 (by omega)).step X S (by omega)
   clear S
   go_wp2_with fail
   refine htk.mono ?_
   clear htk
   rintro e1 w13 ⟨rfl, S⟩
   have htk := want_q b X S [59] (by omega)
   clear S
   go_wp2_with fail
   refine htk.mono ?_
   clear htk
   rintro e1 w14 ⟨rfl, S⟩
   rw [← HU.out] at S
   go_wp2_with fail
   go_ret
   exact hfin _ hp0 4 _ _ _ rfl S HV2.out
end
section
variable {w : World} {g k tok : Nat} {t : Bs} {A : Option Addr} {m c : Nat} {a e f u : Int} {b : Bool}
theorem gen_cells (h : Blk w g 121 (genC k tok t A m c a e f u b)) :
  w.cell? ⟨g, 0, none⟩ = some (.int .i64 (k : Int)) ∧ w.cell? ⟨g, 1, none⟩ = some (.int .i64 (tok : Int)) ∧ w.cell? ⟨g, 2, none⟩ = some (.string ⟨t.toArray⟩) ∧ w.cell? ⟨g, 3, none⟩ = some (.slice A m c) ∧ w.cell? ⟨g, 4, none⟩ = some (.int .i64 a) ∧ w.cell? ⟨g, 5, none⟩ = some (.int .i64 e) ∧ w.cell? ⟨g, 6, none⟩ = some (.int .i64 f) ∧ w.cell? ⟨g, 7, none⟩ = some (.int .i64 u) ∧ w.cell? ⟨g, 8, none⟩ = some (.bool b) := by
 refine ⟨h.cell 0, h.cell 1, h.cell 2, h.cell 3, h.cell 4, h.cell 5, h.cell 6, h.cell 7, h.cell 8⟩
end
def PutE (w : World) (g : Nat) (cs : Array Value) (n : Nat) (e : Ending) (w' : World) : Prop :=
 e = .returned (.int .i64 (n : Int)) ∧ Turn [g] w w' ∧ Blk w' g 121 cs
set_option maxHeartbeats 8000000 in
set_option maxRecDepth 100000 in
theorem put_leaf {w0 : World} {g tok x : Nat} {t : Bs} (hB : Blk w0 g 121 (genC 0 tok t none 0 0 0 0 0 0 false)) (a : Nat) (ha : a + t.length ≤ 1000000000000) :
  Calls Tryz.prog 53 #[.pointer (some ⟨g, 0, none⟩), .int .i64 (a : Int)] w0 (PutE w0 g (putC 0 tok t none 0 0 a (Tr.putP (.leaf tok t x) a)) (a + t.length)) := by
 have hT : Turn [g] w0 w0 := ⟨rfl, fun _ _ => rfl, fun y hy => by simp only [List.mem_singleton] at hy; subst hy; exact ⟨_, _, _, _, _, _, _, _, _, _, _, hB⟩, Calm.refl _⟩
 have a0 : IntKind.i64.wrap ((a : Int) + t.length) = (a : Int) + t.length := IntWalk.i64_in _ (by omega)
 have Ha : Hid (((a + t.length : Nat) : Int) = (a : Int) + t.length) := by show _ = _; omega
 have HP1 : Hid (tok = 1 ∨ tok = 2 → Tr.putP (.leaf tok t x) a = ⟨a + t.length, -1, -1, false⟩) := fun h => by unfold Tr.putP; rw [if_pos h]
 have HP0 : Hid (¬ (tok = 1 ∨ tok = 2) → Tr.putP (.leaf tok t x) a = ⟨a + t.length, (a : Int), ((a + t.length : Nat) : Int), false⟩) := fun h => by unfold Tr.putP; rw [if_neg h]
 generalize Tr.putP (.leaf tok t x) a = pl at *
 clear ha
 go_enter Tryz.func53, Tryz.ntmps53
 obtain ⟨z0, z1, z2, z3, z4, z5, z6, z7, z8⟩ := gen_cells hB
 have y4 := hB.frozen 4
 have y5 := hB.frozen 5
 have y6 := hB.frozen 6
 have y7 := hB.frozen 7
 have y8 := hB.frozen 8
 go_upto_region 2 with fail
 have hT := hT.trans (gen_turn hB 4 (.int .i64 (a : Int)))
 have hB := (gen_set hB).1 (a : Int)
 clear z0 z1 z2 z3 z4 z5 z6 z7 z8 y4 y5 y6 y7 y8
 generalize w0.setCell ⟨g, 4, none⟩ (.int .i64 (a : Int)) = w2 at *
 obtain ⟨z0, z1, z2, z3, z4, z5, z6, z7, z8⟩ := gen_cells hB
 have y4 := hB.frozen 4
 have y5 := hB.frozen 5
 have y6 := hB.frozen 6
 have y7 := hB.frozen 7
 have y8 := hB.frozen 8
 go_upto_region 3 with fail
 have hT := hT.trans (gen_turn hB 6 (.int .i64 (-1)))
 have hB := (gen_set hB).2.2.1 (-1)
 clear z0 z1 z2 z3 z4 z5 z6 z7 z8 y4 y5 y6 y7 y8
 generalize w2.setCell ⟨g, 6, none⟩ (.int .i64 (-1)) = w3 at *
 obtain ⟨z0, z1, z2, z3, z4, z5, z6, z7, z8⟩ := gen_cells hB
 have y4 := hB.frozen 4
 have y5 := hB.frozen 5
 have y6 := hB.frozen 6
 have y7 := hB.frozen 7
 have y8 := hB.frozen 8
 go_upto_region 4 with fail
 have hT := hT.trans (gen_turn hB 7 (.int .i64 (-1)))
 have hB := (gen_set hB).2.2.2.1 (-1)
 clear z0 z1 z2 z3 z4 z5 z6 z7 z8 y4 y5 y6 y7 y8
 generalize w3.setCell ⟨g, 7, none⟩ (.int .i64 (-1)) = w4 at *
 obtain ⟨z0, z1, z2, z3, z4, z5, z6, z7, z8⟩ := gen_cells hB
 have y4 := hB.frozen 4
 have y5 := hB.frozen 5
 have y6 := hB.frozen 6
 have y7 := hB.frozen 7
 have y8 := hB.frozen 8
 go_upto_region 6 with fail
 have hT := hT.trans (gen_turn hB 5 (.int .i64 ((a : Int) + t.length)))
 have hB := (gen_set hB).2.1 ((a : Int) + t.length)
 clear z0 z1 z2 z3 z4 z5 z6 z7 z8 y4 y5 y6 y7 y8
 generalize w4.setCell ⟨g, 5, none⟩ (.int .i64 ((a : Int) + t.length)) = w5 at *
 obtain ⟨z0, z1, z2, z3, z4, z5, z6, z7, z8⟩ := gen_cells hB
 have y4 := hB.frozen 4
 have y5 := hB.frozen 5
 have y6 := hB.frozen 6
 have y7 := hB.frozen 7
 have y8 := hB.frozen 8
 by_cases k1 : tok = 1
 ·have HV := Lib.hid (HP1.out (.inl k1))
  subst k1
  clear HP1 HP0
  go_wp2_with fail
  go_ret
  exact ⟨by rw [Ha.out]; rfl, hT, by rw [HV.out]; unfold putC; dsimp only; rw [Ha.out]; exact hB⟩
 ·have e1 : ((tok : Int) == 1) = false := by simp; omega
  have n1 : ((tok : Int) != 1) = true := by rw [bne, e1]; rfl
  by_cases k2 : tok = 2
  ·have HV := Lib.hid (HP1.out (.inr k2))
   subst k2
   clear HP1 HP0 k1
   go_wp2_with fail
   go_ret
   exact ⟨by rw [Ha.out]; rfl, hT, by rw [HV.out]; unfold putC; dsimp only; rw [Ha.out]; exact hB⟩
  ·have e2 : ((tok : Int) == 2) = false := by simp; omega
   have n2 : ((tok : Int) != 2) = true := by rw [bne, e2]; rfl
   have HV := Lib.hid (HP0.out (fun h => h.elim k1 k2))
   clear HP1 HP0 k1 k2
   go_upto_region 7 with fail
   clear z0 z1 z2 z3 z4 z5 z6 z7 z8 y4 y5 y6 y7 y8
   obtain ⟨z0, z1, z2, z3, z4, z5, z6, z7, z8⟩ := gen_cells hB
   have y4 := hB.frozen 4
   have y5 := hB.frozen 5
   have y6 := hB.frozen 6
   have y7 := hB.frozen 7
   have y8 := hB.frozen 8
   go_upto_region 8 with fail
   have hT := hT.trans (gen_turn hB 6 (.int .i64 (a : Int)))
   have hB := (gen_set hB).2.2.1 (a : Int)
   clear z0 z1 z2 z3 z4 z5 z6 z7 z8 y4 y5 y6 y7 y8
   generalize w5.setCell ⟨g, 6, none⟩ (.int .i64 (a : Int)) = w6 at *
   obtain ⟨z0, z1, z2, z3, z4, z5, z6, z7, z8⟩ := gen_cells hB
   have y4 := hB.frozen 4
   have y5 := hB.frozen 5
   have y6 := hB.frozen 6
   have y7 := hB.frozen 7
   have y8 := hB.frozen 8
   go_upto_region 9 with fail
   have hT := hT.trans (gen_turn hB 7 (.int .i64 ((a : Int) + t.length)))
   have hB := (gen_set hB).2.2.2.1 ((a : Int) + t.length)
   clear z0 z1 z2 z3 z4 z5 z6 z7 z8 y4 y5 y6 y7 y8
   generalize w6.setCell ⟨g, 7, none⟩ (.int .i64 ((a : Int) + t.length)) = w7 at *
   obtain ⟨z0, z1, z2, z3, z4, z5, z6, z7, z8⟩ := gen_cells hB
   have y4 := hB.frozen 4
   have y5 := hB.frozen 5
   have y6 := hB.frozen 6
   have y7 := hB.frozen 7
   have y8 := hB.frozen 8
   go_wp2_with fail
   go_ret
   exact ⟨by rw [Ha.out]; rfl, hT, by rw [HV.out]; unfold putC; dsimp only; rw [Ha.out]; exact hB⟩
set_option maxHeartbeats 8000000 in
set_option maxRecDepth 100000 in
theorem put_gap {w0 : World} {g x : Nat} {t : Bs} {d : Bool} (hB : Blk w0 g 121 (genC 1 0 t none 0 0 0 0 0 0 false)) (a : Nat) :
  Calls Tryz.prog 53 #[.pointer (some ⟨g, 0, none⟩), .int .i64 (a : Int)] w0 (PutE w0 g (putC 1 0 t none 0 0 a (Tr.putP (.gap t x d) a)) a) := by
 have hT : Turn [g] w0 w0 := ⟨rfl, fun _ _ => rfl, fun y hy => by simp only [List.mem_singleton] at hy; subst hy; exact ⟨_, _, _, _, _, _, _, _, _, _, _, hB⟩, Calm.refl _⟩
 have HV : Hid (Tr.putP (.gap t x d) a = ⟨a, -1, -1, true⟩) := by show _ = _; unfold Tr.putP; rfl
 generalize Tr.putP (.gap t x d) a = pl at *
 go_enter Tryz.func53, Tryz.ntmps53
 obtain ⟨z0, z1, z2, z3, z4, z5, z6, z7, z8⟩ := gen_cells hB
 have y4 := hB.frozen 4
 have y5 := hB.frozen 5
 have y6 := hB.frozen 6
 have y7 := hB.frozen 7
 have y8 := hB.frozen 8
 go_upto_region 2 with fail
 have hT := hT.trans (gen_turn hB 4 (.int .i64 (a : Int)))
 have hB := (gen_set hB).1 (a : Int)
 clear z0 z1 z2 z3 z4 z5 z6 z7 z8 y4 y5 y6 y7 y8
 generalize w0.setCell ⟨g, 4, none⟩ (.int .i64 (a : Int)) = w2 at *
 obtain ⟨z0, z1, z2, z3, z4, z5, z6, z7, z8⟩ := gen_cells hB
 have y4 := hB.frozen 4
 have y5 := hB.frozen 5
 have y6 := hB.frozen 6
 have y7 := hB.frozen 7
 have y8 := hB.frozen 8
 go_upto_region 3 with fail
 have hT := hT.trans (gen_turn hB 6 (.int .i64 (-1)))
 have hB := (gen_set hB).2.2.1 (-1)
 clear z0 z1 z2 z3 z4 z5 z6 z7 z8 y4 y5 y6 y7 y8
 generalize w2.setCell ⟨g, 6, none⟩ (.int .i64 (-1)) = w3 at *
 obtain ⟨z0, z1, z2, z3, z4, z5, z6, z7, z8⟩ := gen_cells hB
 have y4 := hB.frozen 4
 have y5 := hB.frozen 5
 have y6 := hB.frozen 6
 have y7 := hB.frozen 7
 have y8 := hB.frozen 8
 go_upto_region 4 with fail
 have hT := hT.trans (gen_turn hB 7 (.int .i64 (-1)))
 have hB := (gen_set hB).2.2.2.1 (-1)
 clear z0 z1 z2 z3 z4 z5 z6 z7 z8 y4 y5 y6 y7 y8
 generalize w3.setCell ⟨g, 7, none⟩ (.int .i64 (-1)) = w4 at *
 obtain ⟨z0, z1, z2, z3, z4, z5, z6, z7, z8⟩ := gen_cells hB
 have y4 := hB.frozen 4
 have y5 := hB.frozen 5
 have y6 := hB.frozen 6
 have y7 := hB.frozen 7
 have y8 := hB.frozen 8
 go_upto_region 11 with fail
 have hT := hT.trans (gen_turn hB 8 (.bool true))
 have hB := (gen_set hB).2.2.2.2 true
 clear z0 z1 z2 z3 z4 z5 z6 z7 z8 y4 y5 y6 y7 y8
 generalize w4.setCell ⟨g, 8, none⟩ (.bool true) = w5 at *
 obtain ⟨z0, z1, z2, z3, z4, z5, z6, z7, z8⟩ := gen_cells hB
 have y4 := hB.frozen 4
 have y5 := hB.frozen 5
 have y6 := hB.frozen 6
 have y7 := hB.frozen 7
 have y8 := hB.frozen 8
 go_wp2_with fail
 clear z0 z1 z2 z3 z4 z5 z6 z7 z8 y4 y5 y6 y7 y8
 go_loopg [1, 5] 0 (fun q v u wr => v = .int .i64 (a : Int) ∧ u = .int .i64 0 ∧ Turn [g] w0 wr ∧ Blk wr g 121 (genC 1 0 t none 0 0 (a : Int) 0 (-1) (-1) true))
 case atStart => exact ⟨rfl, rfl, hT, hB⟩
 case round =>
  clear hT hB
  obtain ⟨rfl, rfl, hT, hB⟩ := hrel
  obtain ⟨z0, z1, z2, z3, z4, z5, z6, z7, z8⟩ := gen_cells hB
  have y4 := hB.frozen 4
  have y5 := hB.frozen 5
  have y6 := hB.frozen 6
  have y7 := hB.frozen 7
  have y8 := hB.frozen 8
  go_upto_region 23 with fail
  have hT := hT.trans (gen_turn hB 5 (.int .i64 (a : Int)))
  have hB := (gen_set hB).2.1 (a : Int)
  clear z0 z1 z2 z3 z4 z5 z6 z7 z8 y4 y5 y6 y7 y8
  generalize wr.setCell ⟨g, 5, none⟩ (.int .i64 (a : Int)) = w6 at *
  go_wp2_with fail
  go_ret
  exact ⟨rfl, hT, by rw [HV.out]; exact hB⟩
end Go.Proofs.YtalklmeejdmifaaGreatDoor
