/-
  JOINED of the texts TL TM TV TN TQ TP
-/
import Derived.Test.YtcjjfeephaddcaaGreatDoorJaf
import Derived.Maps.OwnOps
import Derived.Carry
import Derived.Deep.CutBlock
set_option linter.all false
namespace Go.Proofs.YtcjjfeephaddcaaGreatDoor
open Go.RowKit
theorem PtE.old {w w1 w' : World} {K : Nat → Prop} {g gt : Nat} {s : Bs} {T : List Tk} {b n i : Nat} {r : Tr.PT × Nat} {e : Ending} (R : Rdr w K g gt s T b n i) (hd : Below w.heap.size w w1) (h : PtE w1 (Old w1) g gt s T b n r e w') : PtE w K g gt s T b n r e w' := by
 obtain ⟨v, he, hA, R', hp⟩ := h
 have R1 := R.below hd
 have ha : Aft K g w w' := (Kept.aft (Kept.below hd R.inK) g).trans (hA.old R1.inK)
 exact ⟨v, he, ha, R.from_old R' ha, hp.from_old R1.inK⟩
theorem lit_lt (w : World) (o : Obj) : w.heap.size < (w.alloc o).heap.size := by simp
section
variable {w : World} {K : Nat → Prop} {g gt : Nat} {s : Bs} {T : List Tk} {b n i : Nat}
theorem row_lit (X : Txts s T) (R : Rdr w K g gt s T b n i) {F : Nat} {one : Nat → Tr.PT × Nat} (ho : OneC g gt s T b n F one) (hg : Tr.Goes T one) (l : List Bs) (hl : l.length ≤ 1000) (c : Nat) :
  Calls Tryz.prog 254 #[.pointer (some ⟨g, 0, none⟩), .func (.func F) #[.pointer (some ⟨g, 0, none⟩)] #[], .slice (some ⟨w.heap.size, 0, none⟩) l.length c] (w.alloc (.cells (txtV l).toArray 9)) (PtE w K g gt s T b n (Tr.rowP s T b one l i)) := by
 have hd : Below w.heap.size w (w.alloc (.cells (txtV l).toArray 9)) := (Below.refl _ _).alloc (Nat.le_refl _) _
 have R1 := (R.below hd).old
 exact (row_walk X R1 ho hg w.heap.size c l (lit_lt w _) (by have := R.rs.rd.lt; omega) (lit_rd w l _) hl).mono fun e w' h => PtE.old R hd h
set_option maxHeartbeats 4000000 in
set_option maxRecDepth 100000 in
theorem product_walk (X : Txts s T) (R : Rdr w K g gt s T b n i) {one : Nat → Tr.PT × Nat} (ho : OneC g gt s T b n 267 one) (hg : Tr.Goes T one) :
  Calls Tryz.prog 255 #[.pointer (some ⟨g, 0, none⟩)] w (PtE w K g gt s T b n (Tr.rowP s T b one [[42]] i)) := by
 have h : Calls Tryz.prog 254 #[.pointer (some ⟨g, 0, none⟩), .func (.func 267) #[.pointer (some ⟨g, 0, none⟩)] #[], .slice (some ⟨w.heap.size, 0, none⟩) 1 1] (w.alloc (.cells #[.string ⟨#[42]⟩] 9)) (PtE w K g gt s T b n (Tr.rowP s T b one [[42]] i)) := row_lit X R ho hg [[42]] (by simp) 1
 generalize Tr.rowP s T b one [[42]] i = r at *
 go_enter Tryz.func255, Tryz.ntmps255
 go_wp2_with fail
 refine h.mono ?_
 intro e w' h1
 obtain ⟨v, rfl, hA, R', hp⟩ := h1
 go_wp2_with fail
 go_ret
 exact ⟨v, rfl, hA, R', hp⟩
set_option maxHeartbeats 4000000 in
set_option maxRecDepth 100000 in
theorem sum_walk (X : Txts s T) (R : Rdr w K g gt s T b n i) {one : Nat → Tr.PT × Nat} (ho : OneC g gt s T b n 255 one) (hg : Tr.Goes T one) :
  Calls Tryz.prog 245 #[.pointer (some ⟨g, 0, none⟩)] w (PtE w K g gt s T b n (Tr.rowP s T b one [[43], [45], [43, 43]] i)) := by
 have h : Calls Tryz.prog 254 #[.pointer (some ⟨g, 0, none⟩), .func (.func 255) #[.pointer (some ⟨g, 0, none⟩)] #[], .slice (some ⟨w.heap.size, 0, none⟩) 3 3] (w.alloc (.cells #[.string ⟨#[43]⟩, .string ⟨#[45]⟩, .string ⟨#[43, 43]⟩] 9)) (PtE w K g gt s T b n (Tr.rowP s T b one [[43], [45], [43, 43]] i)) := row_lit X R ho hg [[43], [45], [43, 43]] (by simp) 3
 generalize Tr.rowP s T b one [[43], [45], [43, 43]] i = r at *
 go_enter Tryz.func245, Tryz.ntmps245
 go_wp2_with fail
 refine h.mono ?_
 intro e w' h1
 obtain ⟨v, rfl, hA, R', hp⟩ := h1
 go_wp2_with fail
 go_ret
 exact ⟨v, rfl, hA, R', hp⟩
set_option maxHeartbeats 4000000 in
set_option maxRecDepth 100000 in
theorem comparison_walk (X : Txts s T) (R : Rdr w K g gt s T b n i) {one : Nat → Tr.PT × Nat} (ho : OneC g gt s T b n 245 one) :
  Calls Tryz.prog 234 #[.pointer (some ⟨g, 0, none⟩)] w (PtE w K g gt s T b n (if Tr.isP s T [[61, 61], [60]] (one i).2 then Tr.binP s T b one (one i) else one i)) := by
 have h1 := ho.calls w K i R
 generalize one i = q at *
 have HT : Hid (Tr.isP s T [[61, 61], [60]] q.2 = true → (if Tr.isP s T [[61, 61], [60]] q.2 then Tr.binP s T b one q else q) = Tr.binP s T b one q) := fun h => if_pos h
 have HF : Hid (Tr.isP s T [[61, 61], [60]] q.2 = false → (if Tr.isP s T [[61, 61], [60]] q.2 then Tr.binP s T b one q else q) = q) := fun h => if_neg (by rw [h]; simp)
 generalize (if Tr.isP s T [[61, 61], [60]] q.2 then Tr.binP s T b one q else q) = r at *
 go_enter Tryz.func234, Tryz.ntmps234
 go_wp2_with fail
 refine h1.mono ?_
 clear h1
 intro e w1 h1
 obtain ⟨v, rfl, hA, R, hp⟩ := h1
 have his : Calls Tryz.prog 150 #[.pointer (some ⟨g, 0, none⟩), .slice (some ⟨w1.heap.size, 0, none⟩) 2 2] (w1.alloc (.cells #[.string ⟨#[61, 61]⟩, .string ⟨#[60]⟩] 9)) fun e w' => e = .returned (.bool (Tr.isP s T [[61, 61], [60]] q.2)) ∧ Below w1.heap.size w1 w' := is_lit X R [[61, 61], [60]] (by simp) 2
 generalize Tr.isP s T [[61, 61], [60]] q.2 = vb at *
 go_wp2_with fail
 refine his.mono ?_
 clear his
 rintro e w2 ⟨rfl, hd⟩
 have hA := hA.trans (Kept.aft (Kept.below hd R.inK) g)
 have hp : PtF w2 (fun x => ¬ K x) q.1 v := PtF.keep hd.size (fun y hF hl => ⟨hd.block y hl, hF⟩) _ _ hp
 have R := R.below hd
 clear hd
 cases vb with
 | true =>
  have Hr := Lib.hid (HT.out rfl)
  clear HT HF
  have hbw := binary_walk X R hp ho
  go_wp2_with fail
  refine hbw.mono ?_
  clear hbw R hp
  intro e w3 h3
  obtain ⟨v3, rfl, hA3, R3, hp3⟩ := h3
  go_wp2_with fail
  go_ret
  rw [Hr.out]
  exact ⟨v3, rfl, hA.trans hA3, R3, hp3⟩
 | false =>
  have Hr := Lib.hid (HF.out rfl)
  clear HT HF
  go_wp2_with fail
  go_ret
  rw [Hr.out]
  exact ⟨v, rfl, hA, R, hp⟩
end
theorem Rdr.nest {w : World} {K : Nat → Prop} {g gt : Nat} {s : Bs} {T : List Tk} {b n i : Nat} (h : Rdr w K g gt s T b n i) (m : Nat) : Rdr (w.setCell ⟨g, 3, none⟩ (.int .i64 (m : Int))) K g gt s T b m i := by
 have h1 := (h.rs.rd.set_ 3 (.int .i64 (m : Int)))
 simp at h1
 have ha : Aft K g w (w.setCell ⟨g, 3, none⟩ (.int .i64 (m : Int))) := (Aft.refl K g w).set 3 _
 exact ⟨⟨h1, h.rs.tr.aft ha⟩, h.inK.after ha.size, h.hi, h.hb⟩
set_option maxHeartbeats 4000000 in
set_option maxRecDepth 100000 in
theorem deeper_walk {w : World} {K : Nat → Prop} {g gt : Nat} {s : Bs} {T : List Tk} {b n i h kind at_ : Nat} (R : Rdr w K g gt s T b n i) (hn : n ≤ 1000) (F : Nat) (caps : Array Value) (r : Tr.St)
  (hrun : ∀ (args : Array Value) (w : World), (callFunc F args).run Tryz.prog w = .ok (.enter F args) w)
  (hf : ∀ w1, Aft (Old w) g w w1 → Rdr w1 K g gt s T b (n + 1) i → Calls Tryz.prog F caps w1 (StE w1 K g gt h kind at_ s T b (n + 1) r)) :
  Calls Tryz.prog 230 #[.pointer (some ⟨g, 0, none⟩), .func (.func F) #[] caps] w (StE w K g gt h kind at_ s T b n r) := by
 obtain ⟨_, _, _, g3⟩ := R.rs.cells
 have gf := R.rs.rd.frozen 3
 have hf1 := hf _ ((Aft.refl (Old w) g w).set 3 (.int .i64 ((n + 1 : Nat) : Int))) (R.nest (n + 1))
 rw [show ((n + 1 : Nat) : Int) = (n : Int) + 1 by omega] at hf1
 have hA0 : Aft K g w (w.setCell ⟨g, 3, none⟩ (.int .i64 ((n : Int) + 1))) := (Aft.refl K g w).set 3 _
 go_enter Tryz.func230, Tryz.ntmps230
 go_wp2_with fail
 refine hf1.mono ?_
 clear hf hf1 g3 gf
 intro e w2 h2
 obtain ⟨rfl, hA, R2, hB⟩ := h2
 obtain ⟨_, _, _, g3⟩ := R2.rs.cells
 rw [show ((n + 1 : Nat) : Int) = (n : Int) + 1 by omega] at g3
 have gf := R2.rs.rd.frozen 3
 have hw : IntKind.i64.wrap ((n : Int) + 1 - 1) = n := by rw [IntWalk.i64_in _ (by omega)]; omega
 have HR := Lib.hid (R2.nest n)
 have HB := Lib.hid (hB.seen R2.ng 3 (.int .i64 (n : Int)))
 have HA := Lib.hid ((hA0.trans hA).set 3 (.int .i64 (n : Int)))
 clear hA0 hA R2 hB R
 go_wp2_with fail
 go_end0
 exact ⟨rfl, by have := HA.out; simpa using this, by have := HR.out; simpa using this, by have := HB.out; simpa using this⟩
structure StR (w0 : World) (K : Nat → Prop) (g gt h kind at_ : Nat) (s : Bs) (T : List Tk) (b n i c : Nat) (st : Tr.St) (w : World) : Prop where
 A : Aft K g w0 w
 R : Rdr w K g gt s T b n st.2
 B : Br w K h kind at_ st.1
 ok : Tr.StOk T i c st
section
variable {w0 w w' : World} {K : Nat → Prop} {g gt h kind at_ : Nat} {s : Bs} {T : List Tk} {b n i c d : Nat} {st : Tr.St} {f : Nat → Tr.St} {e : Ending}
theorem StR.len (S : StR w0 K g gt h kind at_ s T b n i c st w) (X : Txts s T) (hc : c ≤ 1000) : st.1.length ≤ 10000000 := by
 have h1 := S.ok.2.2
 have h2 := S.ok.2.1
 have := X.hT
 omega
theorem StR.step (S : StR w0 K g gt h kind at_ s T b n i c st w) (hf : Tr.Adv T f d) (he : StE w K g gt h kind at_ s T b n (Tr.thn st f) e w') : e = .returned (.tuple #[]) ∧ StR w0 K g gt h kind at_ s T b n i (c + d) (Tr.thn st f) w' :=
 ⟨he.1, S.A.trans he.2.1, he.2.2.1, he.2.2.2, S.ok.thn hf⟩
theorem StR.below (S : StR w0 K g gt h kind at_ s T b n i c st w) (hd : Below w.heap.size w w') : StR w0 K g gt h kind at_ s T b n i c st w' :=
 ⟨S.A.trans (Kept.aft (Kept.below hd S.R.inK) g), S.R.below hd, S.B.below hd, S.ok⟩
theorem StR.mono (S : StR w0 K g gt h kind at_ s T b n i c st w) (hd : c ≤ d) : StR w0 K g gt h kind at_ s T b n i d st w := ⟨S.A, S.R, S.B, S.ok.mono hd⟩
theorem want_st (X : Txts s T) (S : StR w0 K g gt h kind at_ s T b n i c st w) (word : Bs) (hc : c ≤ 1000) :
  Calls Tryz.prog 200 #[.pointer (some ⟨g, 0, none⟩), .pointer (some ⟨h, 0, none⟩), .string ⟨word.toArray⟩] w fun e w' => e = .returned (.tuple #[]) ∧ StR w0 K g gt h kind at_ s T b n i (c + 1) (Tr.thn st (Tr.wantP s T b word)) w' :=
 (want_walk X S.R S.B word (by have := S.len X hc; omega)).mono fun _ _ he => S.step (Tr.want_adv s T b word) he
theorem take_st (X : Txts s T) (S : StR w0 K g gt h kind at_ s T b n i c st w) (hc : c ≤ 1000) :
  Calls Tryz.prog 199 #[.pointer (some ⟨g, 0, none⟩), .pointer (some ⟨h, 0, none⟩)] w fun e w' => e = .returned (.tuple #[]) ∧ StR w0 K g gt h kind at_ s T b n i (c + 0) (Tr.thn st (Tr.takeP s T b)) w' :=
 (take_walk X S.R S.B (by have := S.len X hc; omega)).mono fun _ _ he => S.step (Tr.take_adv s T b) he
theorem name_st (X : Txts s T) (S : StR w0 K g gt h kind at_ s T b n i c st w) (hc : c ≤ 1000) :
  Calls Tryz.prog 201 #[.pointer (some ⟨g, 0, none⟩), .pointer (some ⟨h, 0, none⟩)] w fun e w' => e = .returned (.tuple #[]) ∧ StR w0 K g gt h kind at_ s T b n i (c + 1) (Tr.thn st (Tr.nameP s T b)) w' :=
 (name_walkT X S.R S.B (by have := S.len X hc; omega)).mono fun _ _ he => S.step (Tr.name_adv s T b) he
theorem is_st (X : Txts s T) (S : StR w0 K g gt h kind at_ s T b n i c st w) (l : List Bs) (hl : l.length ≤ 1000) (cc : Nat) :
  Calls Tryz.prog 150 #[.pointer (some ⟨g, 0, none⟩), .slice (some ⟨w.heap.size, 0, none⟩) l.length cc] (w.alloc (.cells (txtV l).toArray 9)) fun e w' => e = .returned (.bool (Tr.isP s T l st.2)) ∧ StR w0 K g gt h kind at_ s T b n i c st w' :=
 (is_lit X S.R l hl cc).mono fun _ _ ⟨h1, h2⟩ => ⟨h1, S.below h2⟩
theorem is_st1 (X : Txts s T) (S : StR w0 K g gt h kind at_ s T b n i c st w) (word : Bs) :
  Calls Tryz.prog 150 #[.pointer (some ⟨g, 0, none⟩), .slice (some ⟨w.heap.size, 0, none⟩) 1 1] (w.alloc (.cells #[.string ⟨word.toArray⟩] 9)) fun e w' => e = .returned (.bool (Tr.isP s T [word] st.2)) ∧ StR w0 K g gt h kind at_ s T b n i c st w' :=
 is_st X S [word] (by simp) 1
theorem branch_st (X : Txts s T) (R : Rdr w K g gt s T b n i) (kind : Nat) :
  Calls Tryz.prog 198 #[.pointer (some ⟨g, 0, none⟩), .int .i64 (kind : Int)] w fun e w' => e = .returned (.pointer (some ⟨w.heap.size, 0, none⟩)) ∧ w'.heap.size = w.heap.size + 1 ∧ Below w.heap.size w w' ∧ StR w (Old w) g gt w.heap.size kind (Tr.placeP s T b i) s T b n i 0 ([], i) w' :=
 (branch_walk X R kind).mono fun e w' ⟨h1, h2, h3, h4⟩ => ⟨h1, h3, h2, Kept.aft (Kept.below h2 (Old.in_ w)) g, R.old.below h2, h4 _ (Old.in_ w), Nat.le_refl _, R.hi, by simp⟩
end
theorem thn_nil (i : Nat) (f : Nat → Tr.St) : Tr.thn ([], i) f = f i := by unfold Tr.thn; simp
theorem PtF.pushB {w0 w : World} {K : Nat → Prop} {h : Nat} {pts : List Tr.PT} {A : Option Addr} {c : Nat} {p : Tr.PT} {v : Value} (hp : PtF w (fun x => ¬ Old w0 x) p v) (hK : In K w0) (h0 : h < w0.heap.size) (hr : ∀ q, (Value.slice A pts.length c).ownBlock = some q → q < w0.heap.size) :
  PtF w (fun x => ¬ K x ∧ x ≠ h ∧ some x ≠ (Value.slice A pts.length c).ownBlock) p v :=
 PtF.keep (Nat.le_refl _) (fun _ hF _ => ⟨rfl, fun hk => hF (hK _ hk), fun e => hF (e ▸ h0), fun e => hF (hr _ e.symm)⟩) _ _ hp
set_option maxHeartbeats 8000000 in
set_option maxRecDepth 100000 in
theorem params_walk {w : World} {K : Nat → Prop} {g gt : Nat} {s : Bs} {T : List Tk} {b n i : Nat} {h kind at_ : Nat} {pts : List Tr.PT} (X : Txts s T) (R : Rdr w K g gt s T b n i) (hb : Br w K h kind at_ pts) (hl : pts.length ≤ 40000000) :
  Calls Tryz.prog 202 #[.pointer (some ⟨g, 0, none⟩), .pointer (some ⟨h, 0, none⟩)] w (StE w K g gt h kind at_ s T b n (Tr.thn (pts, i) fun i => Tr.oneP (Tr.paramsP s T b i))) := by
 obtain ⟨i0, ji, jz0, jz1, jz2⟩ := info_parts infoPart
 have hbr := branch_st X R 6
 have HP : Hid ((Tr.thn (pts, i) fun i => Tr.oneP (Tr.paramsP s T b i)) = (pts ++ [(.branch 6 (Tr.placeP s T b i) (Tr.thn (if Tr.isP s T [[41]] (Tr.wantP s T b [40] i).2 then Tr.wantP s T b [40] i else Tr.manyP s T b (Tr.nameP s T b) (T.length + 1) (Tr.thn (Tr.wantP s T b [40] i) (Tr.nameP s T b))) (Tr.wantP s T b [41])).1)], (Tr.thn (if Tr.isP s T [[41]] (Tr.wantP s T b [40] i).2 then Tr.wantP s T b [40] i else Tr.manyP s T b (Tr.nameP s T b) (T.length + 1) (Tr.thn (Tr.wantP s T b [40] i) (Tr.nameP s T b))) (Tr.wantP s T b [41])).2)) := rfl
 rw [HP.out]
 clear HP
 generalize Tr.placeP s T b i = pl at *
 obtain ⟨st, hst0⟩ : ∃ st, st = Tr.wantP s T b [40] i := ⟨_, rfl⟩
 rw [← hst0]
 have Hst0 := Lib.hid hst0
 clear hst0
 have HT : Hid (Tr.isP s T [[41]] st.2 = true → (if Tr.isP s T [[41]] st.2 then st else Tr.manyP s T b (Tr.nameP s T b) (T.length + 1) (Tr.thn st (Tr.nameP s T b))) = st) := fun h => if_pos h
 have HF : Hid (Tr.isP s T [[41]] st.2 = false → Tr.manyP s T b (Tr.nameP s T b) (T.length + 1) (Tr.thn st (Tr.nameP s T b)) = (if Tr.isP s T [[41]] st.2 then st else Tr.manyP s T b (Tr.nameP s T b) (T.length + 1) (Tr.thn st (Tr.nameP s T b)))) := fun h => (if_neg (by rw [h]; simp)).symm
 generalize (if Tr.isP s T [[41]] st.2 then st else Tr.manyP s T b (Tr.nameP s T b) (T.length + 1) (Tr.thn st (Tr.nameP s T b))) = st2 at *
 obtain ⟨st3, hst3⟩ : ∃ st3, st3 = Tr.thn st2 (Tr.wantP s T b [41]) := ⟨_, rfl⟩
 rw [← hst3]
 have Hst3 := Lib.hid hst3
 clear hst3
 obtain ⟨hp0, hhp0⟩ : ∃ x, x = w.heap.size := ⟨_, rfl⟩
 rw [← hhp0] at hbr
 clear hhp0
 obtain ⟨A, c, vs, hb⟩ := hb
 have h0 := hb.blk.lt
 have hr := hb.row_lt
 have hK0 := R.inK
 go_enter Tryz.func202, Tryz.ntmps202
 go_wp2_with fail
 refine hbr.mono ?_
 clear hbr
 rintro e w1 ⟨rfl, -, -, S⟩
 have hwt := want_st X S [40] (by omega)
 rw [thn_nil, ← Hst0.out] at hwt
 clear S
 go_wp2_with fail
 refine hwt.mono ?_
 clear hwt
 rintro e w2 ⟨rfl, S⟩
 have his := is_st1 X S [41]
 clear S
 generalize Tr.isP s T [[41]] st.2 = vb at *
 go_wp2_with fail
 refine his.mono ?_
 clear his
 rintro e w3 ⟨rfl, S⟩
 go_upto_if 13 with fail
 go_cut [13] (fun _ wc => StR w (Old w) g gt hp0 6 pl s T b n i 2 st2 wc)
 case first =>
  cases vb with
  | true =>
   have hst := HT.out rfl
   subst hst
   go_wp2_with fail
   go_meet
   exact S.mono (by omega)
  | false =>
   have Hst := Lib.hid (HF.out rfl)
   clear HT HF
   have hnm := name_st X S (by omega)
   clear S
   go_wp2_with fail
   refine hnm.mono ?_
   clear hnm
   rintro e w4 ⟨rfl, S⟩
   go_wp2_with fail
   go_loopg [17] (T.length - (Tr.thn st (Tr.nameP s T b)).2) (fun q v wr => ∃ y : Tr.St, (Tr.thn st (Tr.nameP s T b)).2 ≤ y.2 ∧ T.length - y.2 ≤ q ∧ Hid (Tr.manyP s T b (Tr.nameP s T b) (T.length + 1) y = st2) ∧ StR w (Old w) g gt hp0 6 pl s T b n i 2 y wr)
   case atStart => exact ⟨_, Nat.le_refl _, Nat.le_refl _, Hst, S⟩
   case round =>
    clear S Hst
    obtain ⟨y, hy1, hq, Hy, S⟩ := hrel
    have his := is_st1 X S [44]
    have hyT := S.ok.2.1
    have hna := Tr.name_adv s T b
    have Hgo : Hid (Tr.isP s T [[44]] y.2 = true → Tr.manyP s T b (Tr.nameP s T b) (T.length + 1) (Tr.roundP s T b (Tr.nameP s T b) y) = st2 ∧ y.2 < (Tr.roundP s T b (Tr.nameP s T b) y).2 ∧ Tr.StOk T i 2 (Tr.roundP s T b (Tr.nameP s T b) y)) := fun h => by
     have h1 := Tr.round_adv s T b hna y hyT (Tr.is_lt s T h)
     refine ⟨by rw [← Tr.many_step s T b hna y hyT h]; exact Hy.out, h1.1, by have := S.ok.1; omega, h1.2.1, by have := S.ok.2.2; have := S.ok.1; omega⟩
    have Hst : Hid (Tr.isP s T [[44]] y.2 = false → y = st2) := fun h => by rw [← Tr.many_stop s T b (Tr.nameP s T b) y h]; exact Hy.out
    clear S
    generalize Tr.isP s T [[44]] y.2 = vc at *
    go_wp2_with fail
    refine his.mono ?_
    clear his
    rintro e w5 ⟨rfl, S⟩
    cases vc with
    | true =>
     obtain ⟨hg1, hg2, hg3⟩ := Hgo.out rfl
     have Hg1 := Lib.hid hg1
     clear Hgo Hst Hy hg1
     have htk := take_st X S (by omega)
     clear S
     go_wp2_with fail
     refine htk.mono ?_
     clear htk
     rintro e w6 ⟨rfl, S⟩
     have hnm := name_st X S (by omega)
     clear S
     go_wp2_with fail
     refine hnm.mono ?_
     clear hnm
     rintro e w7 ⟨rfl, S⟩
     have hS : StR w (Old w) g gt hp0 6 pl s T b n i 2 (Tr.roundP s T b (Tr.nameP s T b) y) w7 := ⟨S.A, S.R, S.B, hg3⟩
     clear S
     go_wp2_with fail
     go_roundg (T.length - (Tr.roundP s T b (Tr.nameP s T b) y).2)
     case rel => exact ⟨_, by omega, Nat.le_refl _, Hg1, hS⟩
     case measure => have := hg3.2.1; omega
    | false =>
     have hst := Hst.out rfl
     clear Hgo Hst Hy
     subst hst
     go_wp2_with fail
     go_meet
     exact S
 case rest =>
  clear HT HF S
  have S := hcut
  clear hcut
  have hwt := want_st X S [41] (by omega)
  clear S
  rw [← Hst3.out] at hwt
  go_wp2_with fail
  refine hwt.mono ?_
  clear hwt
  rintro e w5 ⟨rfl, S⟩
  obtain ⟨hA, R5, hB, hok⟩ := S
  have hp5 := hB.part
  have R := R.from_old R5 (hA.old R.inK)
  have hb := hb.aft hA R.ng (fun _ hx => hx)
  have hA := hA.old hK0
  have hp := hp5.pushB hK0 h0 hr
  have o1 := hb.blk.cell 1
  simp at o1
  clear hp5 hB hok R5 h0 hr Hst0 Hst3
  generalize Tr.PT.branch 6 pl st3.1 = pb at *
  generalize st3.2 = ib at *
  go_wp2_with (at_builtin; refine wpList_append_lies _ rfl _ _ 119 rfl 0 122 i0 _ 1 16 Tryz.underlying119 ji jz0 jz1 jz2 rfl (by omega) _ pts.length _ rfl (hb.own.alloc _) ⟨w5.heap.size, 0, none⟩ 1 1 [.iface 114 (.pointer (some ⟨hp0, 0, none⟩))] rfl rfl (World.news_of_block (cs := #[.iface 114 (.pointer (some ⟨hp0, 0, none⟩))]) (t := 122) (fr := (0, 0)) (heap_alloc_new w5 _)) (by simp [Value.oneCell']) (by omega) (by unfold maxLen; omega) (by omega) (Nat.zero_le _) (w5.heap.size + 1) (by simp) ?_; intro gg cap' w6 hown5 hgrow hat hlt5; have hpu := hb.push R.inK hp hown5 hgrow hat; have hg5 := (hb.blk.alloc (.cells #[.iface 114 (.pointer (some ⟨hp0, 0, none⟩))] 122)).grown hgrow hb.row_ne; have b1 := hg5.cell 1; have bf := hg5.frozen 1; simp at b1)
  go_end0
  exact ⟨rfl, hA.trans (hpu.2.aft g), R.kept hpu.2, hpu.1⟩
theorem Br.kind {w : World} {K : Nat → Prop} {h kind at_ : Nat} {pts : List Tr.PT} (hb : Br w K h kind at_ pts) (k : Nat) : Br (w.setCell ⟨h, 0, none⟩ (.int .i64 (k : Int))) K h k at_ pts := by
 obtain ⟨A, c, vs, hb⟩ := hb
 have h1 := hb.blk.set_ 0 (.int .i64 (k : Int))
 simp at h1
 have hz : w.heap.size ≤ (w.setCell ⟨h, 0, none⟩ (.int .i64 (k : Int))).heap.size := by simp [World.setCell]
 have hk : ∀ x, x ≠ h → (w.setCell ⟨h, 0, none⟩ (.int .i64 (k : Int))).heap[x]? = w.heap[x]? := fun x hx => Below.heap_setCell w ⟨h, 0, none⟩ _ x hx
 exact ⟨A, c, vs, hb.nk, h1, own_of_block hb.own fun q hq => hk q fun e => hb.row_ne (by rw [← e]; exact hq.symm), hb.nr,
  PtsF.keep hz (fun x hF _ => ⟨hk x hF.2.1, hF⟩) _ _ hb.parts⟩
theorem Kept.kind {w : World} {K : Nat → Prop} {h : Nat} (hh : ¬ K h) (v : Value) : Kept K w (w.setCell ⟨h, 0, none⟩ v) :=
 ⟨by simp [World.setCell], fun x hx => Below.heap_setCell w ⟨h, 0, none⟩ v x fun e => hh (by have e2 : x = h := e; rw [← e2]; exact hx), Calm.set w _ v⟩
theorem StR.kind {w0 w : World} {K : Nat → Prop} {g gt h kind at_ : Nat} {s : Bs} {T : List Tk} {b n i c : Nat} {st : Tr.St} (S : StR w0 K g gt h kind at_ s T b n i c st w) (k : Nat) : StR w0 K g gt h k at_ s T b n i c st (w.setCell ⟨h, 0, none⟩ (.int .i64 (k : Int))) :=
 ⟨S.A.trans ((Kept.kind S.B.nk _).aft g), S.R.kept (Kept.kind S.B.nk _), S.B.kind k, S.ok⟩
structure ExC (g gt : Nat) (s : Bs) (T : List Tk) (b n : Nat) (e : Nat → Tr.St) : Prop where
 adv : Tr.Adv T e 1
 calls : ∀ (w : World) (K : Nat → Prop) (i h kind at_ : Nat) (pts : List Tr.PT), Rdr w K g gt s T b n i → Br w K h kind at_ pts → pts.length ≤ 40000000 →
  Calls Tryz.prog 203 #[.pointer (some ⟨g, 0, none⟩), .pointer (some ⟨h, 0, none⟩)] w (StE w K g gt h kind at_ s T b n (Tr.thn (pts, i) e))
section
variable {w0 w : World} {K : Nat → Prop} {g gt h kind at_ : Nat} {s : Bs} {T : List Tk} {b n i c : Nat} {st : Tr.St} {e : Nat → Tr.St}
theorem expr_st (X : Txts s T) (E : ExC g gt s T b n e) (S : StR w0 K g gt h kind at_ s T b n i c st w) (hc : c ≤ 1000) :
  Calls Tryz.prog 203 #[.pointer (some ⟨g, 0, none⟩), .pointer (some ⟨h, 0, none⟩)] w fun e' w' => e' = .returned (.tuple #[]) ∧ StR w0 K g gt h kind at_ s T b n i (c + 1) (Tr.thn st e) w' :=
 (E.calls _ _ _ _ _ _ _ S.R S.B (by have := S.len X hc; omega)).mono fun _ _ he => S.step E.adv he
end
theorem cell_box {w w' : World} {K : Nat → Prop} {g q : Nat} {t : TypeId} {v : Value} (h : Blk w q t #[v]) (ha : Aft K g w w') (hq : K q) (hg : q ≠ g) : w'.cell? ⟨q, 0, none⟩ = some v := by
 have := (h.aft ha hq hg).cell 0
 simpa using this
set_option maxHeartbeats 8000000 in
set_option maxRecDepth 100000 in
theorem list1_walk {w : World} {K : Nat → Prop} {g gt hl kl pl : Nat} {s : Bs} {T : List Tk} {b n i : Nat} {e : Nat → Tr.St} (X : Txts s T) (E : ExC g gt s T b n e) (S : StR w K g gt hl kl pl s T b n i 0 ([], i) w) (shut : Bs) (qr ql qe : Nat)
  (HB : Hid (∀ w', Aft K g w w' → w'.cell? ⟨qr, 0, none⟩ = some (.pointer (some ⟨g, 0, none⟩)) ∧ w'.cell? ⟨ql, 0, none⟩ = some (.pointer (some ⟨hl, 0, none⟩)) ∧ w'.cell? ⟨qe, 0, none⟩ = some (.string ⟨shut.toArray⟩))) :
  Calls Tryz.prog 286 #[.pointer (some ⟨qr, 0, none⟩), .pointer (some ⟨ql, 0, none⟩), .pointer (some ⟨qe, 0, none⟩)] w (StE w K g gt hl kl pl s T b n (Tr.thn (if Tr.isP s T [shut] (Tr.takeP s T b i).2 then Tr.takeP s T b i else Tr.manyP s T b e (T.length + 1) (Tr.thn (Tr.takeP s T b i) e)) (Tr.wantP s T b shut))) := by
 obtain ⟨st, hst0⟩ : ∃ st, st = Tr.takeP s T b i := ⟨_, rfl⟩
 rw [← hst0]
 have Hst0 := Lib.hid hst0
 clear hst0
 have HT : Hid (Tr.isP s T [shut] st.2 = true → (if Tr.isP s T [shut] st.2 then st else Tr.manyP s T b e (T.length + 1) (Tr.thn st e)) = st) := fun h => if_pos h
 have HF : Hid (Tr.isP s T [shut] st.2 = false → Tr.manyP s T b e (T.length + 1) (Tr.thn st e) = (if Tr.isP s T [shut] st.2 then st else Tr.manyP s T b e (T.length + 1) (Tr.thn st e))) := fun h => (if_neg (by rw [h]; simp)).symm
 generalize (if Tr.isP s T [shut] st.2 then st else Tr.manyP s T b e (T.length + 1) (Tr.thn st e)) = st2 at *
 obtain ⟨st3, hst3⟩ : ∃ st3, st3 = Tr.thn st2 (Tr.wantP s T b shut) := ⟨_, rfl⟩
 rw [← hst3]
 have Hst3 := Lib.hid hst3
 clear hst3
 obtain ⟨k0, k1, k2⟩ := HB.out _ S.A
 have htk := take_st X S (by omega)
 rw [thn_nil, ← Hst0.out] at htk
 clear S
 go_enter Tryz.func286, Tryz.ntmps286
 go_wp2_with fail
 refine htk.mono ?_
 clear htk k0 k1 k2
 rintro e1 w2 ⟨rfl, S⟩
 obtain ⟨k0, k1, k2⟩ := HB.out _ S.A
 have his := is_st1 X S shut
 clear S
 generalize Tr.isP s T [shut] st.2 = vb at *
 go_wp2_with fail
 refine his.mono ?_
 clear his k0 k1 k2
 rintro e1 w3 ⟨rfl, S⟩
 go_upto_if 10 with fail
 go_cut [10] (fun _ wc => StR w K g gt hl kl pl s T b n i 2 st2 wc)
 case first =>
  cases vb with
  | true =>
   have hst := HT.out rfl
   subst hst
   go_wp2_with fail
   go_meet
   exact S.mono (by omega)
  | false =>
   have Hst := Lib.hid (HF.out rfl)
   clear HT HF
   obtain ⟨k0, k1, k2⟩ := HB.out _ S.A
   have hnm := expr_st X E S (by omega)
   clear S
   go_wp2_with fail
   refine hnm.mono ?_
   clear hnm k0 k1 k2
   rintro e1 w4 ⟨rfl, S⟩
   replace S := S.mono (d := 2) (by omega)
   go_wp2_with fail
   go_loopg [17] (T.length - (Tr.thn st e).2) (fun q v wr => ∃ y : Tr.St, (Tr.thn st e).2 ≤ y.2 ∧ T.length - y.2 ≤ q ∧ Hid (Tr.manyP s T b e (T.length + 1) y = st2) ∧ StR w K g gt hl kl pl s T b n i 2 y wr)
   case atStart => exact ⟨_, Nat.le_refl _, Nat.le_refl _, Hst, S⟩
   case round =>
    clear S Hst
    obtain ⟨y, hy1, hq, Hy, S⟩ := hrel
    obtain ⟨k0, k1, k2⟩ := HB.out _ S.A
    have his := is_st1 X S [44]
    have hyT := S.ok.2.1
    have hna := E.adv
    have Hgo : Hid (Tr.isP s T [[44]] y.2 = true → Tr.manyP s T b e (T.length + 1) (Tr.roundP s T b e y) = st2 ∧ y.2 < (Tr.roundP s T b e y).2 ∧ Tr.StOk T i 2 (Tr.roundP s T b e y)) := fun h => by
     have h1 := Tr.round_adv s T b hna y hyT (Tr.is_lt s T h)
     refine ⟨by rw [← Tr.many_step s T b hna y hyT h]; exact Hy.out, h1.1, by have := S.ok.1; omega, h1.2.1, by have := S.ok.2.2; have := S.ok.1; omega⟩
    have Hst : Hid (Tr.isP s T [[44]] y.2 = false → y = st2) := fun h => by rw [← Tr.many_stop s T b e y h]; exact Hy.out
    clear S
    generalize Tr.isP s T [[44]] y.2 = vc at *
    go_wp2_with fail
    refine his.mono ?_
    clear his k0 k1 k2
    rintro e1 w5 ⟨rfl, S⟩
    cases vc with
    | true =>
     obtain ⟨hg1, hg2, hg3⟩ := Hgo.out rfl
     have Hg1 := Lib.hid hg1
     clear Hgo Hst Hy hg1 hna
     obtain ⟨k0, k1, k2⟩ := HB.out _ S.A
     have htk := take_st X S (by omega)
     clear S
     go_wp2_with fail
     refine htk.mono ?_
     clear htk k0 k1 k2
     rintro e1 w6 ⟨rfl, S⟩
     obtain ⟨k0, k1, k2⟩ := HB.out _ S.A
     have hnm := expr_st X E S (by omega)
     clear S
     go_wp2_with fail
     refine hnm.mono ?_
     clear hnm k0 k1 k2
     rintro e1 w7 ⟨rfl, S⟩
     have hS : StR w K g gt hl kl pl s T b n i 2 (Tr.roundP s T b e y) w7 := ⟨S.A, S.R, S.B, hg3⟩
     clear S
     go_wp2_with fail
     go_roundg (T.length - (Tr.roundP s T b e y).2)
     case rel => exact ⟨_, by omega, Nat.le_refl _, Hg1, hS⟩
     case measure => have := hg3.2.1; omega
    | false =>
     have hst := Hst.out rfl
     clear Hgo Hst Hy hna
     subst hst
     go_wp2_with fail
     go_meet
     exact S
 case rest =>
  clear HT HF S
  have S := hcut
  clear hcut
  obtain ⟨k0, k1, k2⟩ := HB.out _ S.A
  have hwt := want_st X S shut (by omega)
  rw [← Hst3.out] at hwt
  clear S
  go_wp2_with fail
  refine hwt.mono ?_
  clear hwt k0 k1 k2
  rintro e1 w5 ⟨rfl, S⟩
  go_wp2_with fail
  go_end0
  exact ⟨rfl, S.A, S.R, S.B⟩
theorem Br.boxed {w : World} {K : Nat → Prop} {h kind at_ : Nat} {pts : List Tr.PT} (hb : Br w K h kind at_ pts) (o : Obj) : Br (w.alloc o) (fun x => K x ∨ x = w.heap.size) h kind at_ pts := by
 obtain ⟨A, c, vs, hb⟩ := hb
 have hd : Below w.heap.size w (w.alloc o) := (Below.refl _ _).alloc (Nat.le_refl _) _
 have h1 := hb.blk.lt
 have h2 := hb.row_lt
 have hb' := hb.below hd
 refine ⟨A, c, vs, fun e => e.elim hb.nk (fun e => by omega), hb'.blk, hb'.own, fun q hq e => e.elim (hb.nr q hq) (fun e => by have := h2 q hq; omega), ?_⟩
 exact PtsF.keep hd.size (fun x hF hl => ⟨hd.block x hl, fun e => e.elim hF.1 (fun e => by omega), hF.2.1, hF.2.2⟩) _ _ hb.parts
theorem Rdr.boxed {w : World} {K : Nat → Prop} {g gt : Nat} {s : Bs} {T : List Tk} {b n i : Nat} (R : Rdr w K g gt s T b n i) (o : Obj) : Rdr (w.alloc o) (fun x => K x ∨ x = w.heap.size) g gt s T b n i := by
 have hd : Below w.heap.size w (w.alloc o) := (Below.refl _ _).alloc (Nat.le_refl _) _
 have R' := R.below hd
 exact ⟨R'.rs.mono fun x hx => .inl hx, fun x hx => hx.elim (fun hx => R'.inK x hx) (fun e => by rw [e]; simp), R.hi, R.hb⟩
set_option maxHeartbeats 8000000 in
set_option maxRecDepth 100000 in
theorem list_walk {w : World} {K : Nat → Prop} {g gt : Nat} {s : Bs} {T : List Tk} {b n i : Nat} {h kind at_ : Nat} {pts : List Tr.PT} {e : Nat → Tr.St} (X : Txts s T) (E : ExC g gt s T b (n + 1) e) (R : Rdr w K g gt s T b n i) (hb : Br w K h kind at_ pts) (hl0 : pts.length ≤ 40000000) (hn : n ≤ 1000) (kl : Nat) (shut : Bs) :
  Calls Tryz.prog 277 #[.pointer (some ⟨g, 0, none⟩), .pointer (some ⟨h, 0, none⟩), .int .i64 (kl : Int), .string ⟨shut.toArray⟩] w (StE w K g gt h kind at_ s T b n (Tr.thn (pts, i) fun i => Tr.oneP (Tr.listP s T b e kl shut i))) := by
 obtain ⟨i0, ji, jz0, jz1, jz2⟩ := info_parts infoPart
 obtain ⟨A, c, vs, hb⟩ := hb
 have h0 := hb.blk.lt
 have hr := hb.row_lt
 have hK0 := R.inK
 have hgl := R.rs.rd.lt
 obtain ⟨r, hr0⟩ : ∃ r, r = (Tr.thn (if Tr.isP s T [shut] (Tr.takeP s T b i).2 then Tr.takeP s T b i else Tr.manyP s T b e (T.length + 1) (Tr.thn (Tr.takeP s T b i) e)) (Tr.wantP s T b shut)) := ⟨_, rfl⟩
 have HP : Hid ((Tr.thn (pts, i) fun i => Tr.oneP (Tr.listP s T b e kl shut i)) = (pts ++ [.branch kl (Tr.placeP s T b i) r.1], r.2)) := by rw [hr0]; rfl
 rw [HP.out]
 clear HP
 have Hr0 := Lib.hid hr0
 clear hr0
 have hd1 : Below w.heap.size w ((w.alloc (.cells #[.pointer (some ⟨g, 0, none⟩)] 203)).alloc (.cells #[.string ⟨shut.toArray⟩] 9)) := ((Below.refl _ _).alloc (Nat.le_refl _) _).alloc (by simp) _
 have hq1 : Blk ((w.alloc (.cells #[.pointer (some ⟨g, 0, none⟩)] 203)).alloc (.cells #[.string ⟨shut.toArray⟩] 9)) w.heap.size 203 #[.pointer (some ⟨g, 0, none⟩)] := (Blk.new _ _ _).alloc _
 have hq2 : Blk ((w.alloc (.cells #[.pointer (some ⟨g, 0, none⟩)] 203)).alloc (.cells #[.string ⟨shut.toArray⟩] 9)) (w.heap.size + 1) 9 #[.string ⟨shut.toArray⟩] := by
  have h := Blk.new (w.alloc (.cells #[.pointer (some ⟨g, 0, none⟩)] 203)) 9 #[.string ⟨shut.toArray⟩]
  simpa using h
 obtain ⟨qr, hqr⟩ : ∃ x, x = w.heap.size := ⟨_, rfl⟩
 obtain ⟨qe, hqe⟩ : ∃ x, x = w.heap.size + 1 := ⟨_, rfl⟩
 rw [← hqr] at hq1
 rw [← hqe] at hq2
 have hgr : qr ≠ g ∧ qe ≠ g := ⟨by omega, by omega⟩
 go_enter Tryz.func277, Tryz.ntmps277
 go_upto_region 1 with fail
 rw [← hqe, ← hqr]
 clear hqe hqr
 generalize ((w.alloc (.cells #[.pointer (some ⟨g, 0, none⟩)] 203)).alloc (.cells #[.string ⟨shut.toArray⟩] 9)) = w1 at *
 have R1 := R.below hd1
 have hbr := branch_st X R1 kl
 have k0 := hq1.cell 0
 simp at k0
 obtain ⟨hl, hhl⟩ : ∃ x, x = w1.heap.size := ⟨_, rfl⟩
 rw [← hhl] at hbr
 have hl1 := hq1.lt
 have hl2 := hq2.lt
 have HN : Hid (hl = w1.heap.size) := hhl
 clear hhl
 generalize Tr.placeP s T b i = pl at *
 go_wp2_with fail
 refine hbr.mono ?_
 clear hbr
 rintro e1 w2 ⟨rfl, hz2, hd2, S⟩
 rw [HN.out] at hd2 hz2
 have Hz2 := Lib.hid hz2
 clear hz2
 have hq1 := hq1.below hd2 hl1
 have hq2 := hq2.below hd2 hl2
 have hd3 : Below w2.heap.size w2 (w2.alloc (.cells #[.pointer (some ⟨hl, 0, none⟩)] 114)) := (Below.refl _ _).alloc (Nat.le_refl _) _
 have hq3 : Blk (w2.alloc (.cells #[.pointer (some ⟨hl, 0, none⟩)] 114)) w2.heap.size 114 #[.pointer (some ⟨hl, 0, none⟩)] := Blk.new _ _ _
 have hq1 := hq1.below hd3 hq1.lt
 have hq2 := hq2.below hd3 hq2.lt
 have R3 := S.R.boxed (.cells #[.pointer (some ⟨hl, 0, none⟩)] 114)
 have B3 := S.B.boxed (.cells #[.pointer (some ⟨hl, 0, none⟩)] 114)
 have hd13 : Below w1.heap.size w1 (w2.alloc (.cells #[.pointer (some ⟨hl, 0, none⟩)] 114)) := hd2.trans (hd3.mono hd2.size)
 have hok := S.ok
 clear S hd2 hd3 k0
 obtain ⟨ql, hql⟩ : ∃ x, x = w2.heap.size := ⟨_, rfl⟩
 rw [← hql] at R3 B3 hq3
 have hqg : ql ≠ g := by have := hd1.size; have := Hz2.out; omega
 go_upto_region 2 with fail
 rw [← hql]
 clear hql
 generalize (w2.alloc (.cells #[.pointer (some ⟨hl, 0, none⟩)] 114)) = w3 at *
 have k0 := hq1.cell 0
 simp at k0
 have HBX : Hid (∀ w0, Aft (Old w3) g w3 w0 → ∀ w', Aft (fun x => Old w1 x ∨ x = ql) g w0 w' → w'.cell? ⟨qr, 0, none⟩ = some (.pointer (some ⟨g, 0, none⟩)) ∧ w'.cell? ⟨ql, 0, none⟩ = some (.pointer (some ⟨hl, 0, none⟩)) ∧ w'.cell? ⟨qe, 0, none⟩ = some (.string ⟨shut.toArray⟩)) := fun w0 ha w' ha' =>
  ⟨cell_box (hq1.aft ha hq1.lt hgr.1) ha' (.inl hl1) hgr.1, cell_box (hq3.aft ha hq3.lt hqg) ha' (.inr rfl) hqg, cell_box (hq2.aft ha hq2.lt hgr.2) ha' (.inl hl2) hgr.2⟩
 have hdp := deeper_walk (h := hl) (kind := kl) (at_ := pl) R3 hn 286 #[.pointer (some ⟨qr, 0, none⟩), .pointer (some ⟨ql, 0, none⟩), .pointer (some ⟨qe, 0, none⟩)] r (fun _ _ => by kernel_rfl) (fun w0 ha R0 => by
  have S0 : StR w0 (fun x => Old w1 x ∨ x = ql) g gt hl kl pl s T b (n + 1) i 0 ([], i) w0 := ⟨Aft.refl _ _ _, R0, B3.aft ha R0.ng, hok⟩
  rw [Hr0.out]
  exact list1_walk X E S0 shut qr ql qe (HBX.out w0 ha))
 clear hok B3
 go_wp2_with fail
 refine hdp.mono ?_
 clear hdp k0
 intro e1 w4 h4
 obtain ⟨rfl, hA4, R4, B4⟩ := h4
 have hA04 : Aft (Old w) g w w4 := (Kept.aft (Kept.below hd1 (Old.in_ w)) g).trans ((Kept.aft (Kept.below hd13 (fun x hx => Nat.lt_of_lt_of_le hx hd1.size)) g).trans (hA4.mono fun x hx => .inl (Nat.lt_of_lt_of_le hx hd1.size)))
 have hb := hb.aft hA04 R.ng (fun _ hx => hx)
 have R := R.from_old R4 (hA04.old hK0)
 have hA := hA04.old hK0
 have hp4 : PtF w4 (fun x => ¬ Old w x) (.branch kl pl r.1) (.iface 114 (.pointer (some ⟨hl, 0, none⟩))) := PtF.keep (Nat.le_refl _) (fun x hF _ => ⟨rfl, fun hx => hF (.inl (Nat.lt_of_lt_of_le hx hd1.size))⟩) _ _ B4.part
 have hp := hp4.pushB hK0 h0 hr
 have hq3 := hq3.aft hA4 (.inr rfl) hqg
 clear hA04 hA4 R4 B4 hp4 h0 hr hq1 hq2 HBX R3 R1 hd1 hd13 hgr Hr0 hl1 hl2 Hz2 HN E
 generalize Tr.PT.branch kl pl r.1 = pb at *
 generalize r.2 = ib at *
 go_upto_region 3 with fail
 refine wp_region_G 11 (fun w' : World => w'.cell? ⟨h, 1, none⟩ = some (.slice A pts.length c) ∧ w'.cell? ⟨ql, 0, none⟩ = some (.pointer (some ⟨hl, 0, none⟩))) (by kernel_rfl) ?_
 have hd : Below w4.heap.size w4 w4.drew := (Below.refl _ _).drew
 have hA := hA.trans (Kept.aft (Kept.below hd R.inK) g)
 have R := R.drew
 have hb := hb.below hd
 have hp := PtF.keep hd.size (fun x hF hl => ⟨hd.block x hl, hF⟩) _ _ hp
 have hq3 := hq3.drew
 clear hd
 generalize w4.drew = w5 at *
 have o1 := hb.blk.cell 1
 have k0 := hq3.cell 0
 simp at o1 k0
 have hS0 : (fun w' : World => w'.cell? ⟨h, 1, none⟩ = some (.slice A pts.length c) ∧ w'.cell? ⟨ql, 0, none⟩ = some (.pointer (some ⟨hl, 0, none⟩))) w5 := ⟨o1, k0⟩
 refine wpAnyG_tk 0 hS0 ?_
 simp only [Act.put, List.setIfInBounds_toArray]
 refine wpAnyG_tk 1 hS0 ?_
 simp only [Act.put]
 refine wpAnyG_tk 2 hS0 ?_
 simp only [Act.put]
 refine wpAnyG_tk 3 hS0 ?_
 simp only [Act.put]
 refine wpAnyG_tk 4 hS0 ?_
 simp only [Act.put]
 refine wpAnyG_tk 5 hS0 ?_
 simp only [Act.put]
 refine wpAnyG_tk 6 hS0 ?_
 simp only [Act.put]
 clear hS0
 refine wpAnyG_on 7 fun C hC => ?_
 go_simp
 refine hC.out _ _ (fun _ => ⟨(cell_alloc _ _ _ _ hb.blk.lt).trans o1, (cell_alloc _ _ _ _ hq3.lt).trans k0⟩) ?_
 clear hC C
 refine wpAnyG_on 8 fun C hC => ?_
 refine step_append_lies _ (by rfl) _ _ _ (by rfl) 0 122 i0 _ 1 16 Tryz.underlying119 ji jz0 jz1 jz2 rfl (by omega) (.slice A pts.length c) pts.length vs (by rfl) (hb.own.alloc (.cells #[.iface 114 (.pointer (some ⟨hl, 0, none⟩))] 122)) ⟨w5.heap.size, 0, none⟩ 1 1 [.iface 114 (.pointer (some ⟨hl, 0, none⟩))] (by rfl) (by rfl) (World.news_of_block (heap_alloc_new w5 _)) (by simp [Value.oneCell']) (by omega) (by unfold maxLen; omega) (by omega) (Nat.zero_le _) (w5.heap.size + 1) (by simp) ?_
 intro gg cap' w5 hown5 hgrow hat hlt5
 have hpu := hb.push R.inK hp hown5 hgrow hat
 have hg5 := (hb.blk.alloc (.cells #[.iface 114 (.pointer (some ⟨hl, 0, none⟩))] 122)).grown hgrow hb.row_ne
 have b1 := hg5.cell 1
 have bf := hg5.frozen 1
 simp at b1
 have hx5 := (hq3.alloc (.cells #[.iface 114 (.pointer (some ⟨hl, 0, none⟩))] 122)).grown hgrow (own_ne hb.own hq3 (by decide))
 have e0 := hx5.cell 0
 simp at e0
 refine hC.out _ _ (fun _ => ⟨b1, e0⟩) ?_
 clear hC C
 refine wpAnyG_on 9 fun C hC => ?_
 go_simp
 refine hC.out _ _ (fun _ => ⟨b1, e0⟩) ?_
 clear hC C
 refine wpAnyG_on 10 fun C hC => ?_
 go_simp
 refine hC.out _ _ (fun _ => ⟨b1, e0⟩) ?_
 clear hC C
 refine wpAnyG_on 11 fun C hC => ?_
 go_simp
 refine hC.out _ _ (fun h => absurd rfl h) ?_
 clear hC C
 refine wpAnyG_done (by kernel_rfl) ?_ _
 have hB := hpu.1
 have R := R.kept hpu.2
 have hA := hA.trans (hpu.2.aft g)
 clear hb hp o1 hown5 hgrow hat hlt5 hpu hg5 b1 bf
 go_end0
 exact ⟨rfl, hA, R, hB⟩
end Go.Proofs.YtcjjfeephaddcaaGreatDoor
namespace Go.Proofs.YtcjjfeephaddcaaGreatDoor
open Go.RowKit Go.Maps
theorem wpList_insert_own {H : Type} {P : Program} (w : World) {ops : Array Oper} {rest : List Oper} {o : Oper} {a : Act} {Q : Exit → Act → World → Prop}
  (hg : o.guard = none) (m x v : Operand) (t : TypeId) (hop : o.op = Op.insert t m x v)
  (k e : TypeId) (K : Keyed P k) (ht : P.underlying t = some (.map k e)) (R : Value → Option (DataW H × List MemPlace)) (b n : Nat) (D : DataW H)
  (hm : a.eval m = .map (some b)) (hown : w.ownsMap P k R b n D) (hn : n < maxLen) (key val : Value) (kl : Lit) (hx : a.eval x = key) (hv : a.eval v = val) (hkey : keyOf P k key = some kl)
  (d : DataW H) (ps : List MemPlace) (hval : R val = some (d, ps))
  (hK : ∀ w', w'.ownsMap P k R b (n + 1) (D.put kl d) → w.grownBy w' (some b) → wpList P ops Q rest (a.put o.dst undef) w') :
  wpList P ops Q (o :: rest) a w := by
 refine wpList_plain hg fun K' hK' => ?_
 obtain ⟨w', hrun, r1, r2⟩ := hown.update K ht hn hkey hval
 unfold Oper.wp
 simp [execOp, hop, hm, hx, hv, hrun, Result.andThen]
 exact hK' _ _ (hK w' r1 r2)
theorem intKeys : Keyed Tryz.prog 3 := int_keyed Tryz.underlying3
theorem zeroInt (w : World) : (zeroValue 3).run Tryz.prog w = .ok (.int .i64 0) w := by kernel_rfl
def mapK (k : Nat) : Nat := if k = 5 then 15 else if k = 6 then 16 else if k = 3 then 18 else 0
theorem nine {k : Nat} (h : k ≤ 8) : k = 0 ∨ k = 1 ∨ k = 2 ∨ k = 3 ∨ k = 4 ∨ k = 5 ∨ k = 6 ∨ k = 7 ∨ k = 8 := by omega
theorem wfk (k : Nat) (h : k ≤ 8) : (Lit.int .i64 (k : Int)).wf = true := by
 rcases nine h with rfl | rfl | rfl | rfl | rfl | rfl | rfl | rfl | rfl <;> decide
theorem kinds_at (k : Nat) (h : k ≤ 8) : ((((DataW.map (H := Unit) []).put (.int .i64 5) (.lit (.int .i64 15))).put (.int .i64 6) (.lit (.int .i64 16))).put (.int .i64 3) (.lit (.int .i64 18))).atKey (.int .i64 (k : Int)) (.lit (.int .i64 0)) = .lit (.int .i64 (mapK k : Int)) := by
 rcases nine h with rfl | rfl | rfl | rfl | rfl | rfl | rfl | rfl | rfl <;> rfl
theorem Br.first {w : World} {K : Nat → Prop} {h kind at_ : Nat} {p : Tr.PT} (hb : Br w K h kind at_ [p]) : ∃ q cap v, w.cell? ⟨h, 1, none⟩ = some (.slice (some ⟨q, 0, none⟩) 1 cap) ∧ w.cell? ⟨q, 0, none⟩ = some v ∧ PtF w (fun x => ¬ K x) p v := by
 obtain ⟨A, c, vs, hb⟩ := hb
 have c1 := hb.blk.cell 1
 obtain ⟨v, vs', rfl, hp, hl⟩ := hb.parts
 rcases hb.own.2 with ⟨e, e2⟩ | ⟨q, cap, cur, e, _, hq, hle, _, hz, hx⟩
 ·simp at e2
 ·injection e with e1 e2 e3
  subst e1 e3
  exact ⟨q, c, v, by simpa using c1, own_cell hb.own 0 v rfl, PtF.keep (Nat.le_refl _) (fun b hF _ => ⟨rfl, hF.1⟩) _ _ hp⟩
set_option maxHeartbeats 8000000 in
set_option maxRecDepth 100000 in
theorem part1_walk {w : World} {K : Nat → Prop} {g gt hl kl pl : Nat} {s : Bs} {T : List Tk} {b n i : Nat} {e : Nat → Tr.St} (X : Txts s T) (E : ExC g gt s T b n e) (S : StR w K g gt hl kl pl s T b n i 0 ([], i) w) (qr ql : Nat)
  (HB : Hid (∀ w', Aft K g w w' → w'.cell? ⟨qr, 0, none⟩ = some (.pointer (some ⟨g, 0, none⟩)) ∧ w'.cell? ⟨ql, 0, none⟩ = some (.pointer (some ⟨hl, 0, none⟩)))) :
  Calls Tryz.prog 285 #[.pointer (some ⟨qr, 0, none⟩), .pointer (some ⟨ql, 0, none⟩)] w (StE w K g gt hl kl pl s T b n (Tr.thn (Tr.thn (Tr.takeP s T b i) e) (Tr.wantP s T b [41]))) := by
 obtain ⟨k0, k1⟩ := HB.out _ S.A
 have htk := take_st X S (by omega)
 rw [thn_nil] at htk
 clear S
 go_enter Tryz.func285, Tryz.ntmps285
 go_wp2_with fail
 refine htk.mono ?_
 clear htk k0 k1
 rintro e1 w2 ⟨rfl, S⟩
 obtain ⟨k0, k1⟩ := HB.out _ S.A
 have hex := expr_st X E S (by omega)
 clear S
 go_wp2_with fail
 refine hex.mono ?_
 clear hex k0 k1
 rintro e1 w3 ⟨rfl, S⟩
 obtain ⟨k0, k1⟩ := HB.out _ S.A
 have hwt := want_st X S [41] (by omega)
 clear S
 go_wp2_with fail
 refine hwt.mono ?_
 clear hwt k0 k1
 rintro e1 w4 ⟨rfl, S⟩
 go_wp2_with fail
 go_end0
 exact ⟨rfl, S.A, S.R, S.B⟩
theorem kind_le {s : Bs} {T : List Tk} (X : Txts s T) (k : Nat) : Tr.kindP T k ≤ 8 := by
 by_cases h : k < T.length
 ·rw [Tr.kind_at T k h]; exact (X.good.at_ h).2.2
 ·rw [Tr.kind_end T k (by omega)]; omega
set_option maxHeartbeats 8000000 in
set_option maxRecDepth 100000 in
theorem part_walk {w : World} {K : Nat → Prop} {g gt : Nat} {s : Bs} {T : List Tk} {b n i : Nat} {e : Nat → Tr.St} (X : Txts s T) (E : ExC g gt s T b (n + 1) e) (R : Rdr w K g gt s T b n i) (hn : n ≤ 1000) :
  Calls Tryz.prog 276 #[.pointer (some ⟨g, 0, none⟩)] w (PtE w K g gt s T b n (Tr.partP s T b e i)) := by
 have hT := X.hT
 have hgl := R.rs.rd.lt
 have hnl := Tr.next_le T i R.hi
 have hkl := kind_le X (Tr.nextP T i)
 generalize hr : Tr.partP s T b e i = r
 have HP1 : Hid (0 < Tr.leafK (Tr.kindP T (Tr.nextP T i)) (Tr.textP s T (Tr.nextP T i)) → r = (.branch (Tr.leafK (Tr.kindP T (Tr.nextP T i)) (Tr.textP s T (Tr.nextP T i))) (Tr.placeP s T b i) (Tr.takeP s T b i).1, (Tr.takeP s T b i).2)) := fun h => by rw [← hr]; unfold Tr.partP; rw [if_pos h]; rfl
 have HP2 : Hid (¬ 0 < Tr.leafK (Tr.kindP T (Tr.nextP T i)) (Tr.textP s T (Tr.nextP T i)) → Tr.isP s T [[40]] i = true → r = (.branch 14 (Tr.placeP s T b i) (Tr.thn (Tr.thn (Tr.takeP s T b i) e) (Tr.wantP s T b [41])).1, (Tr.thn (Tr.thn (Tr.takeP s T b i) e) (Tr.wantP s T b [41])).2)) := fun h h2 => by rw [← hr]; unfold Tr.partP; rw [if_neg h, if_pos h2]; rfl
 have HP3 : Hid (¬ 0 < Tr.leafK (Tr.kindP T (Tr.nextP T i)) (Tr.textP s T (Tr.nextP T i)) → Tr.isP s T [[40]] i = false → Tr.isP s T [[91]] i = true → r = Tr.listP s T b e 13 [93] i) := fun h h2 h3 => by rw [← hr]; unfold Tr.partP; rw [if_neg h, if_neg (by rw [h2]; simp), if_pos h3]
 have HP4 : Hid (¬ 0 < Tr.leafK (Tr.kindP T (Tr.nextP T i)) (Tr.textP s T (Tr.nextP T i)) → Tr.isP s T [[40]] i = false → Tr.isP s T [[91]] i = false → r = (.gap Tr.sExpr (Tr.placeP s T b i) false, i)) := fun h h2 h3 => by rw [← hr]; unfold Tr.partP; rw [if_neg h, if_neg (by rw [h2]; simp), if_neg (by rw [h3]; simp)]
 clear hr
 have hd1 : Below w.heap.size w (w.alloc (.cells #[.pointer (some ⟨g, 0, none⟩)] 203)) := (Below.refl _ _).alloc (Nat.le_refl _) _
 have hq : Blk (w.alloc (.cells #[.pointer (some ⟨g, 0, none⟩)] 203)) w.heap.size 203 #[.pointer (some ⟨g, 0, none⟩)] := Blk.new _ _ _
 have R1 := (R.below hd1).old
 obtain ⟨q, hqe⟩ : ∃ x, x = w.heap.size := ⟨_, rfl⟩
 rw [← hqe] at hq
 have hqg : q ≠ g := by omega
 go_enter Tryz.func276, Tryz.ntmps276
 go_upto_region 1 with fail
 rw [← hqe]
 clear hqe
 generalize (w.alloc (.cells #[.pointer (some ⟨g, 0, none⟩)] 203)) = w1 at *
 refine wp_region_G 8 (fun w' : World => w'.cell? ⟨q, 0, none⟩ = some (.pointer (some ⟨g, 0, none⟩))) (by kernel_rfl) ?_
 have hq2 := hq.drew
 have R2 : Rdr w1.drew (Old w1) g gt s T b n i := R1.drew
 have h1 := next_walkT R2.rs R2.hi (by omega)
 have h2 := text_walkT (Tr.nextP T i) R2.rs X.good (by have := X.hs; omega) (by omega)
 generalize Tr.kindP T (Tr.nextP T i) = kd at *
 generalize Tr.textP s T (Tr.nextP T i) = tx at *
 generalize Tr.nextP T i = nx at *
 have hd2 : Below w1.heap.size w1 w1.drew := (Below.refl _ _).drew
 generalize w1.drew = w2 at *
 have k0 := hq2.cell 0
 simp at k0
 have hS0 : (fun w' : World => w'.cell? ⟨q, 0, none⟩ = some (.pointer (some ⟨g, 0, none⟩))) w2 := k0
 refine wpAnyG_tk 0 hS0 ?_
 simp only [Act.put, List.setIfInBounds_toArray]
 refine wpAnyG_tk 1 hS0 ?_
 simp only [Act.put]
 clear hS0
 refine wpAnyG_on 2 fun C hC => ?_
 go_simp
 ((with_reducible refine h1.mono ?_))
 clear h1
 rintro e1 w3 ⟨rfl, rfl⟩
 refine hC.out _ _ (fun _ => k0) ?_
 clear hC C
 refine wpAnyG_on 3 fun C hC => ?_
 go_simp
 ((with_reducible refine h2.mono ?_))
 clear h2
 rintro e1 w4 ⟨rfl, hd3⟩
 have hq4 := hq2.below hd3 hq2.lt
 have R4 := R2.below hd3
 have hd14 : Below w1.heap.size w1 w4 := hd2.trans (hd3.mono hd2.size)
 have k0 := hq4.cell 0
 simp at k0
 refine hC.out _ _ (fun _ => k0) ?_
 clear hC C hq hq2 R1 R2 hd2 hd3
 refine wpAnyG_on 4 fun C hC => ?_
 go_simp
 refine hC.out _ _ (fun _ => k0) ?_
 clear hC C
 have hS0 : (fun w' : World => w'.cell? ⟨q, 0, none⟩ = some (.pointer (some ⟨g, 0, none⟩))) w4 := k0
 refine wpAnyG_tk 5 hS0 ?_
 simp only [Act.put]
 refine wpAnyG_tk 6 hS0 ?_
 simp only [Act.put]
 clear hS0
 refine wpAnyG_on 7 fun C hC => ?_
 go_simp
 refine hC.out _ _ (fun _ => k0) ?_
 clear hC C
 refine wpAnyG_on 8 fun C hC => ?_
 go_simp
 refine hC.out _ _ (fun h => absurd rfl h) ?_
 clear hC C
 refine wpAnyG_done (by kernel_rfl) ?_ _
 go_upto_region 2 with fail
 go_cut [5] (fun v wc => v = .int .i64 (mapK kd : Int) ∧ Below w4.heap.size w4 wc)
 case first =>
  have h00 := World.ownsMap_made (H := Unit) w4 Tryz.prog 3 (plainElem Tryz.prog 3)
  have hmm := @run_makeMap Tryz.prog
  go_wp2_with (first | (refine wpList_insert_own (H := Unit) _ rfl _ _ _ 398 rfl 3 3 intKeys Tryz.underlying398 _ w4.heap.size 0 _ rfl h00 (by unfold maxLen; omega) _ _ _ rfl rfl (keyOf_int_mk Tryz.underlying3 (by decide)) _ [] (plainElem_int Tryz.underlying3 (by decide)) ?_; intro wa hwa gwa) | (refine wpList_insert_own (H := Unit) _ rfl _ _ _ 398 rfl 3 3 intKeys Tryz.underlying398 _ w4.heap.size 1 _ rfl hwa (by unfold maxLen; omega) _ _ _ rfl rfl (keyOf_int_mk Tryz.underlying3 (by decide)) _ [] (plainElem_int Tryz.underlying3 (by decide)) ?_; intro wb hwb gwb) | (refine wpList_insert_own (H := Unit) _ rfl _ _ _ 398 rfl 3 3 intKeys Tryz.underlying398 _ w4.heap.size 2 _ rfl hwb (by unfold maxLen; omega) _ _ _ rfl rfl (keyOf_int_mk Tryz.underlying3 (by decide)) _ [] (plainElem_int Tryz.underlying3 (by decide)) ?_; intro wd hwd gwd) | (refine wpList_lookup_own_int (H := Unit) _ rfl _ _ 398 rfl 3 3 .i64 intKeys Tryz.underlying398 Tryz.underlying3 (zeroInt _) w4.heap.size 3 _ rfl hwd _ _ rfl (keyOf_int_mk Tryz.underlying3 (wfk kd hkl)) ?_; intro c hat hwc))
  go_meet
  have hc2 : DataW.lit (H := Unit) (.int .i64 c) = .lit (.int .i64 (mapK kd : Int)) := hat.symm.trans (kinds_at kd hkl)
  injection hc2 with hc2
  injection hc2 with _ hc2
  refine ⟨by rw [hc2], ?_⟩
  have z0 : Below w4.heap.size w4 (w4.alloc (.map #[] 0)) := (Below.refl _ _).alloc (Nat.le_refl _) _
  have z1 := z0.grown gwa z0.size (fun j hj => by cases hj; exact Nat.le_refl _)
  have z2 := z1.grown gwb z1.size (fun j hj => by cases hj; exact Nat.le_refl _)
  exact z2.grown gwd z2.size (fun j hj => by cases hj; exact Nat.le_refl _)
 case rest =>
  obtain ⟨rfl, hd⟩ := hcut
  clear hkl
  go_upto_block 0 with fail
  go_cut [5] (fun v wd => v = .int .i64 (Tr.leafK kd tx : Int) ∧ wd = wc)
  case first =>
   have HL : Hid (Tr.leafK kd tx = (if kd = 4 ∧ (tx = Tr.sTrue ∨ tx = Tr.sFalse) then 17 else if kd = 7 ∧ tx = [63] then 19 else if kd = 5 then 15 else if kd = 6 then 16 else if kd = 3 then 18 else 0)) := rfl
   have HM : Hid (mapK kd = (if kd = 5 then 15 else if kd = 6 then 16 else if kd = 3 then 18 else 0)) := rfl
   generalize Tr.leafK kd tx = L at *
   generalize mapK kd = M at *
   clear hd hd1 R R4 X E HP1 HP2 HP3 HP4
   by_cases h4 : kd = 4
   ·subst h4
    by_cases ht : tx = Tr.sTrue
    ·have HV : Hid (L = 17) := by show _ = _; rw [HL.out, if_pos ⟨rfl, .inl ht⟩]
     subst ht
     clear HL HM
     unfold Tr.sTrue
     go_wp2_with fail
     go_meet
     exact ⟨by rw [HV.out]; rfl, rfl⟩
    ·by_cases hf : tx = Tr.sFalse
     ·have HV : Hid (L = 17) := by show _ = _; rw [HL.out, if_pos ⟨rfl, .inr hf⟩]
      subst hf
      clear HL HM ht
      unfold Tr.sFalse
      go_wp2_with fail
      go_meet
      exact ⟨by rw [HV.out]; rfl, rfl⟩
     ·have HV : Hid (L = M) := by show _ = _; rw [HL.out, HM.out, if_neg (fun h => h.2.elim ht hf), if_neg (fun h => by omega)]
      have d3 : ¬ tx = [116, 114, 117, 101] := ht
      have d4 : ¬ tx = [102, 97, 108, 115, 101] := hf
      have d1 : (tx == [116, 114, 117, 101]) = false := beq_eq_false_iff_ne.2 d3
      have d2 : (tx == [102, 97, 108, 115, 101]) = false := beq_eq_false_iff_ne.2 d4
      clear HL HM ht hf
      go_wp2_with fail
      go_meet
      exact ⟨by rw [HV.out], rfl⟩
   ·have e4 : ((kd : Int) == 4) = false := by simp; omega
    by_cases h7 : kd = 7
    ·subst h7
     clear h4 e4
     by_cases ht : tx = [63]
     ·have HV : Hid (L = 19) := by show _ = _; rw [HL.out, if_neg (fun h => by omega), if_pos ⟨rfl, ht⟩]
      subst ht
      clear HL HM
      go_wp2_with fail
      go_meet
      exact ⟨by rw [HV.out]; rfl, rfl⟩
     ·have HV : Hid (L = M) := by show _ = _; rw [HL.out, HM.out, if_neg (fun h => by omega), if_neg (fun h => ht h.2)]
      have d1 : (tx == [63]) = false := by simpa using ht
      clear HL HM
      go_wp2_with fail
      go_meet
      exact ⟨by rw [HV.out], rfl⟩
    ·have e7 : ((kd : Int) == 7) = false := by simp; omega
     have HV : Hid (L = M) := by show _ = _; rw [HL.out, HM.out, if_neg (fun h => h4 h.1), if_neg (fun h => h7 h.1)]
     clear HL HM h4 h7
     go_wp2_with fail
     go_meet
     exact ⟨by rw [HV.out], rfl⟩
  case rest =>
   obtain ⟨rfl, rfl⟩ := hcut
   have hdw : Below w.heap.size w wc := hd1.trans ((hd14.trans (hd.mono hd14.size)).mono hd1.size)
   have hqc := hq4.below hd hq4.lt
   clear hd hd14 hd1 R4 hq4
   have hdn : Below wc.heap.size wc (wc.alloc (.cells #[.int .i64 0, .slice none 0 0, .int .i64 0] 178)) := (Below.refl _ _).alloc (Nat.le_refl _) _
   have hqd := hqc.below hdn hqc.lt
   have hdb := hdw.trans (hdn.mono hdw.size)
   have hBb : ∀ K, In K wc → Br (wc.alloc (.cells #[.int .i64 0, .slice none 0 0, .int .i64 0] 178)) K wc.heap.size 0 0 [] := fun K hK => Br.new hK 0 0
   have hIn : In K wc := R.inK.after hdw.size
   obtain ⟨bb, hbb⟩ : ∃ x, x = wc.heap.size := ⟨_, rfl⟩
   rw [← hbb] at hBb
   have hBk := hBb K hIn
   go_upto_region 9 with fail
   rw [← hbb]
   clear hbb hdn hqc hBb hdw
   generalize wc.alloc (.cells #[.int .i64 0, .slice none 0 0, .int .i64 0] 178) = wd at *
   have R5 := R.below hdb
   have k0 := hqd.cell 0
   simp at k0
   by_cases hL : 0 < Tr.leafK kd tx
   ·have HP := Lib.hid (HP1.out hL)
    clear HP1 HP2 HP3 HP4 hBk E
    generalize Tr.leafK kd tx = L at *
    have i1 : (0 : Int) < (L : Int) := by omega
    have hbr := branch_st X R5 L
    obtain ⟨hl, hhl⟩ : ∃ x, x = wd.heap.size := ⟨_, rfl⟩
    rw [← hhl] at hbr
    have HN : Hid (hl = wd.heap.size) := hhl
    clear hhl
    go_wp2_with fail
    refine hbr.mono ?_
    clear hbr
    rintro e1 we ⟨rfl, -, hdz, S⟩
    rw [HN.out] at hdz
    have hqe := hqd.below hdz hqd.lt
    have k0 := hqe.cell 0
    simp at k0
    have htk := take_st X S (by omega)
    rw [thn_nil] at htk
    clear S
    go_wp2_with fail
    refine htk.mono ?_
    clear htk
    rintro e1 wf ⟨rfl, S⟩
    rw [HN.out] at S
    have hp := S.B.part
    have hA := (Kept.aft (Kept.below hdb R.inK) g).trans (S.A.old R5.inK)
    have hp2 := hp.from_old R5.inK
    have hR := R.from_old S.R hA
    clear S hp k0
    go_wp2_with fail
    go_ret
    rw [HP.out]
    exact ⟨_, rfl, hA, hR, by rw [HN.out]; exact hp2⟩
   ·have HP2' := Lib.hid (HP2.out hL)
    have HP3' := Lib.hid (HP3.out hL)
    have HP4' := Lib.hid (HP4.out hL)
    clear HP1 HP2 HP3 HP4
    generalize Tr.leafK kd tx = L at *
    have i1 : ¬ (0 : Int) < (L : Int) := by omega
    have his : Calls Tryz.prog 150 #[.pointer (some ⟨g, 0, none⟩), .slice (some ⟨wd.heap.size, 0, none⟩) 1 1] (wd.alloc (.cells #[.string ⟨#[40]⟩] 9)) fun e w' => e = .returned (.bool (Tr.isP s T [[40]] i)) ∧ Below wd.heap.size wd w' := is_lit X R5 [[40]] (by simp) 1
    generalize Tr.isP s T [[40]] i = vb at *
    go_wp2_with fail
    refine his.mono ?_
    clear his k0
    rintro e1 we ⟨rfl, hdz⟩
    have R6 := R5.below hdz
    have hB6 := hBk.below hdz
    have hqe := hqd.below hdz hqd.lt
    have hdb6 := hdb.trans (hdz.mono hdb.size)
    clear R5 hBk hqd hdb hdz
    have k0 := hqe.cell 0
    simp at k0
    cases vb with
    | true =>
     have HP := Lib.hid (HP2'.out rfl)
     clear HP2' HP3' HP4' hB6
     have hbr := branch_st X R6 14
     obtain ⟨hl, hhl⟩ : ∃ x, x = we.heap.size := ⟨_, rfl⟩
     rw [← hhl] at hbr
     have HN : Hid (hl = we.heap.size) := hhl
     clear hhl
     go_wp2_with fail
     refine hbr.mono ?_
     clear hbr
     rintro e1 w2 ⟨rfl, hz2, hd2, S⟩
     rw [HN.out] at hd2 hz2
     have Hz2 := Lib.hid hz2
     clear hz2 k0
     have hq1 := hqe.below hd2 hqe.lt
     have hd3 : Below w2.heap.size w2 (w2.alloc (.cells #[.pointer (some ⟨hl, 0, none⟩)] 114)) := (Below.refl _ _).alloc (Nat.le_refl _) _
     have hq3 : Blk (w2.alloc (.cells #[.pointer (some ⟨hl, 0, none⟩)] 114)) w2.heap.size 114 #[.pointer (some ⟨hl, 0, none⟩)] := Blk.new _ _ _
     have hq1 := hq1.below hd3 hq1.lt
     have R3 := S.R.boxed (.cells #[.pointer (some ⟨hl, 0, none⟩)] 114)
     have B3 := S.B.boxed (.cells #[.pointer (some ⟨hl, 0, none⟩)] 114)
     have hd13 : Below we.heap.size we (w2.alloc (.cells #[.pointer (some ⟨hl, 0, none⟩)] 114)) := hd2.trans (hd3.mono hd2.size)
     have hok := S.ok
     have hql1 := hqe.lt
     have hgl2 := R6.rs.rd.lt
     clear S hd2 hd3
     obtain ⟨ql, hql⟩ : ∃ x, x = w2.heap.size := ⟨_, rfl⟩
     rw [← hql] at R3 B3 hq3
     have hqg3 : ql ≠ g := by have := Hz2.out; omega
     go_upto_region 15 with fail
     rw [← hql]
     clear hql
     generalize (w2.alloc (.cells #[.pointer (some ⟨hl, 0, none⟩)] 114)) = w3 at *
     have k0 := hq1.cell 0
     simp at k0
     have HBX : Hid (∀ w0, Aft (Old w3) g w3 w0 → ∀ w', Aft (fun x => Old we x ∨ x = ql) g w0 w' → w'.cell? ⟨q, 0, none⟩ = some (.pointer (some ⟨g, 0, none⟩)) ∧ w'.cell? ⟨ql, 0, none⟩ = some (.pointer (some ⟨hl, 0, none⟩))) := fun w0 ha w' ha' =>
      ⟨cell_box (hq1.aft ha hq1.lt hqg) ha' (.inl hql1) hqg, cell_box (hq3.aft ha hq3.lt hqg3) ha' (.inr rfl) hqg3⟩
     generalize Tr.placeP s T b i = pl at *
     have hdp := deeper_walk (h := hl) (kind := 14) (at_ := pl) R3 hn 285 #[.pointer (some ⟨q, 0, none⟩), .pointer (some ⟨ql, 0, none⟩)] (Tr.thn (Tr.thn (Tr.takeP s T b i) e) (Tr.wantP s T b [41])) (fun _ _ => by kernel_rfl) (fun w0 ha R0 =>
      part1_walk X E ⟨Aft.refl _ _ _, R0, B3.aft ha R0.ng, hok⟩ q ql (HBX.out w0 ha))
     clear hok B3
     go_wp2_with fail
     refine hdp.mono ?_
     clear hdp k0
     intro e1 w4 h4
     obtain ⟨rfl, hA4, R4, B4⟩ := h4
     have hA04 : Aft (Old w) g w w4 := (Kept.aft (Kept.below hdb6 (Old.in_ w)) g).trans ((Kept.aft (Kept.below hd13 (fun x hx => Nat.lt_of_lt_of_le hx hdb6.size)) g).trans (hA4.mono fun x hx => .inl (Nat.lt_of_lt_of_le hx hdb6.size)))
     have hR := R.from_old R4 (hA04.old R.inK)
     have hA := hA04.old R.inK
     have hp4 := PtF.keep (F' := fun x => ¬ K x) (Nat.le_refl _) (fun x hF _ => ⟨rfl, fun hx => hF (.inl (Nat.lt_of_lt_of_le (R.inK x hx) hdb6.size))⟩) _ _ B4.part
     have hq3 := hq3.aft hA4 (.inr rfl) hqg3
     have k1 := hq3.cell 0
     simp at k1
     clear hA04 hA4 R4 B4 hq1 HBX R3 hd13 hq3 E
     go_wp2_with fail
     go_ret
     rw [HP.out]
     exact ⟨_, rfl, hA, hR, hp4⟩
    | false =>
     have hL2 := Lib.hid (HP3'.out rfl)
     have hL3 := Lib.hid (HP4'.out rfl)
     clear HP2' HP3' HP4'
     have his : Calls Tryz.prog 150 #[.pointer (some ⟨g, 0, none⟩), .slice (some ⟨we.heap.size, 0, none⟩) 1 1] (we.alloc (.cells #[.string ⟨#[91]⟩] 9)) fun e w' => e = .returned (.bool (Tr.isP s T [[91]] i)) ∧ Below we.heap.size we w' := is_lit X R6 [[91]] (by simp) 1
     generalize Tr.isP s T [[91]] i = vc at *
     go_wp2_with fail
     refine his.mono ?_
     clear his k0
     rintro e1 wf ⟨rfl, hdz⟩
     have R7 := R6.below hdz
     have hB7 := hB6.below hdz
     have hqf := hqe.below hdz hqe.lt
     have hdb7 := hdb6.trans (hdz.mono hdb6.size)
     clear R6 hB6 hqe hdb6 hdz
     have k0 := hqf.cell 0
     simp at k0
     have hA7 := Kept.aft (Kept.below hdb7 R.inK) g
     cases vc with
     | true =>
      have HP := Lib.hid (hL2.out rfl)
      clear hL2 hL3
      have hls := list_walk X E R7 hB7 (by simp) hn 13 [93]
      go_wp2_with fail
      refine hls.mono ?_
      clear hls k0 hqf R7 hB7
      intro e1 w4 h4
      obtain ⟨rfl, hA4, R4, B4⟩ := h4
      rw [show (Tr.thn ([], i) fun i => Tr.oneP (Tr.listP s T b e 13 [93] i)) = ([(Tr.listP s T b e 13 [93] i).1], (Tr.listP s T b e 13 [93] i).2) from rfl] at R4 B4
      generalize Tr.listP s T b e 13 [93] i = x at *
      obtain ⟨q2, cap2, v2, y1, y2, hp⟩ := B4.first
      have hA8 := hA7.trans hA4
      clear B4 hA4 hA7 E
      go_wp2_with fail
      go_ret
      rw [HP.out]
      exact ⟨_, rfl, hA8, R4, hp⟩
     | false =>
      have HP := Lib.hid (hL3.out rfl)
      clear hL2 hL3
      have hls := missing_walk X R7 hB7 Tr.sExpr (by simp)
      unfold Tr.sExpr at hls
      go_wp2_with fail
      refine hls.mono ?_
      clear hls k0 hqf R7 hB7
      intro e1 w4 h4
      obtain ⟨rfl, hA4, R4, B4⟩ := h4
      rw [show (Tr.thn ([], i) (Tr.missP s T b [101, 120, 112, 114, 101, 115, 115, 105, 111, 110])) = ([(Tr.PT.gap Tr.sExpr (Tr.placeP s T b i) false)], i) from rfl] at R4 B4
      generalize (Tr.PT.gap Tr.sExpr (Tr.placeP s T b i) false) = x at *
      obtain ⟨q2, cap2, v2, y1, y2, hp⟩ := B4.first
      have hA8 := hA7.trans hA4
      clear B4 hA4 hA7 E
      go_wp2_with fail
      go_ret
      rw [HP.out]
      exact ⟨_, rfl, hA8, R4, hp⟩
end Go.Proofs.YtcjjfeephaddcaaGreatDoor
namespace Go.Proofs.YtcjjfeephaddcaaGreatDoor
open Go.RowKit
set_option maxHeartbeats 8000000 in
set_option maxRecDepth 100000 in
theorem call_walk {w : World} {K : Nat → Prop} {g gt : Nat} {s : Bs} {T : List Tk} {b n i : Nat} {e : Nat → Tr.St} (X : Txts s T) (E : ExC g gt s T b (n + 1) e) (R : Rdr w K g gt s T b n i) (hn : n ≤ 1000)
  (hpart : Calls Tryz.prog 276 #[.pointer (some ⟨g, 0, none⟩)] w (PtE w K g gt s T b n (Tr.partP s T b e i))) :
  Calls Tryz.prog 267 #[.pointer (some ⟨g, 0, none⟩)] w (PtE w K g gt s T b n (Tr.callP s T b e i)) := by
 have hT := X.hT
 have Hg1 := Tr.part_goes s T b E.adv i R.hi
 generalize hr : Tr.callP s T b e i = r
 have Hr : Hid (Tr.callsP s T b e (T.length + 1) (Tr.partP s T b e i) = r) := hr
 clear hr
 go_enter Tryz.func267, Tryz.ntmps267
 go_wp2_with fail
 refine hpart.mono ?_
 clear hpart
 intro e1 w1 h1
 obtain ⟨v, rfl, hA1, R1, hp⟩ := h1
 generalize Tr.partP s T b e i = q1 at *
 go_wp2_with fail
 go_loopg [3, 4] (T.length - q1.2) (fun q v _ wr => ∃ x : Tr.PT × Nat, q1.2 ≤ x.2 ∧ T.length - x.2 ≤ q ∧ Hid (Tr.callsP s T b e (T.length + 1) x = r) ∧ Aft K g w wr ∧ Rdr wr K g gt s T b n x.2 ∧ PtF wr (fun x => ¬ K x) x.1 v)
 case atStart => exact ⟨q1, Nat.le_refl _, Nat.le_refl _, Hr, hA1, R1, hp⟩
 case round =>
  clear hA1 R1 hp Hr
  obtain ⟨x, hx1, hq, Hx, hA, R, hp⟩ := hrel
  have hi := R.hi
  have his : Calls Tryz.prog 150 #[.pointer (some ⟨g, 0, none⟩), .slice (some ⟨wr.heap.size, 0, none⟩) 1 1] (wr.alloc (.cells #[.string ⟨#[40]⟩] 9)) fun e w' => e = .returned (.bool (Tr.isP s T [[40]] x.2)) ∧ Below wr.heap.size wr w' := is_lit X R [[40]] (by simp) 1
  have Hstep : Hid (Tr.isP s T [[40]] x.2 = true → Tr.callsP s T b e (T.length + 1) (Tr.callR s T b e x) = r ∧ x.2 < (Tr.callR s T b e x).2) := fun h => ⟨by rw [← Tr.calls_step s T b E.adv x R.hi h]; exact Hx.out, Tr.list_gt s T b E.adv 12 [41] x.2 R.hi (Tr.is_lt s T h)⟩
  have Hstop : Hid (Tr.isP s T [[40]] x.2 = false → x = r) := fun h => by rw [← Tr.calls_stop s T b e x h]; exact Hx.out
  generalize Tr.isP s T [[40]] x.2 = vb at *
  go_wp2_with fail
  refine his.mono ?_
  clear his
  rintro e1 w2 ⟨rfl, hd⟩
  have hA := hA.trans (Kept.aft (Kept.below hd R.inK) g)
  have hp := PtF.keep (F' := fun x => ¬ K x) hd.size (fun y hF hl => ⟨hd.block y hl, hF⟩) _ _ hp
  have R := R.below hd
  clear hd
  cases vb with
  | true =>
   obtain ⟨hst, hgt⟩ := Hstep.out rfl
   have Hst := Lib.hid hst
   clear Hstep Hstop Hx hst
   have har := around_walk R.inK 11 hp
   have hxr : Hid (Tr.callR s T b e x = (.branch 11 x.1.from_ [x.1, (Tr.listP s T b e 12 [41] x.2).1], (Tr.listP s T b e 12 [41] x.2).2)) := rfl
   generalize x.1.from_ = fr at *
   go_wp2_with fail
   refine har.mono ?_
   clear har
   rintro e1 w3 ⟨h, rfl, hd, hhs, hb⟩
   have hA := hA.trans (Kept.aft (Kept.below hd R.inK) g)
   have R := R.below hd
   clear hd hp
   have hls := list_walk X E R hb (by simp) hn 12 [41]
   go_wp2_with fail
   refine hls.mono ?_
   clear hls hb R
   intro e1 w4 h4
   obtain ⟨rfl, hA4, R4, B4⟩ := h4
   have hA4 := hA.trans hA4
   have hp4 := B4.part
   have hx : Tr.thn ([x.1], x.2) (fun i => Tr.oneP (Tr.listP s T b e 12 [41] i)) = ([x.1, (Tr.listP s T b e 12 [41] x.2).1], (Tr.listP s T b e 12 [41] x.2).2) := rfl
   rw [hx] at R4 hp4
   clear hA hx
   have R5 : Rdr w4 K g gt s T b n (Tr.callR s T b e x).2 := by rw [hxr.out]; exact R4
   have hp5 : PtF w4 (fun x => ¬ K x) (Tr.callR s T b e x).1 (.iface 114 (.pointer (some ⟨h, 0, none⟩))) := by rw [hxr.out]; exact hp4
   clear R4 hp4 hxr B4
   generalize Tr.callR s T b e x = y at *
   go_wp2_with fail
   go_roundg (T.length - y.2)
   case rel => exact ⟨y, by omega, Nat.le_refl _, Hst, hA4, R5, hp5⟩
   case measure => have h2 : y.2 ≤ T.length := R5.hi; omega
  | false =>
   have hst := Hstop.out rfl
   clear Hstep Hstop Hx
   subst hst
   go_wp2_with fail
   go_ret
   exact ⟨_, rfl, hA, R, hp⟩
end Go.Proofs.YtcjjfeephaddcaaGreatDoor
