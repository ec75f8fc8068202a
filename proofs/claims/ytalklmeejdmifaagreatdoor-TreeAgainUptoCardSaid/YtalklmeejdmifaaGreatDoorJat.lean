/-
  JOINED of the texts DF DH DG
-/
import Derived.Test.YtalklmeejdmifaaGreatDoorJas
namespace Go.Proofs.YtalklmeejdmifaaGreatDoor
open Go.RowKit
structure ExD (F g : Nat) (s : Bs) (T : List Tk) (Ar : Option Addr) (c0 n : Nat) (e : Nat → Tr.St) : Prop where
 adv : Tr.Adv T e 1
 calls : ∀ (w : World) (K : Nat → Prop) (i h kind : Nat) (pts : List Tr.PT) (cut : Bool), Rdq w K g s T Ar c0 n i cut → Bn w K h kind pts → pts.length ≤ 40000000 →
  Calls Tryz.prog F #[.pointer (some ⟨g, 0, none⟩), .pointer (some ⟨h, 0, none⟩)] w (StD w K g h kind s T Ar c0 n (cut || Tr.deepsB (e i).1) (Tr.thn (pts, i) e))
def PtQ (w : World) (K : Nat → Prop) (g : Nat) (s : Bs) (T : List Tk) (Ar : Option Addr) (c0 n : Nat) (cut : Bool) (r : Tr.PT × Nat) (e : Ending) (w' : World) : Prop :=
 ∃ q, e = .returned (.pointer (some ⟨q, 0, none⟩)) ∧ Aft K g w w' ∧ Rdq w' K g s T Ar c0 n r.2 (cut || Tr.deepB r.1) ∧ Rn w' (fun x => ¬ K x) r.1 (.pointer (some ⟨q, 0, none⟩))
theorem PtQ.old {w w' : World} {K : Nat → Prop} {g : Nat} {s : Bs} {T : List Tk} {Ar : Option Addr} {c0 n i : Nat} {cut : Bool} {r : Tr.PT × Nat} {e : Ending} (R : Rdq w K g s T Ar c0 n i cut) (h : PtQ w (Old w) g s T Ar c0 n cut r e w') : PtQ w K g s T Ar c0 n cut r e w' := by
 obtain ⟨q, h1, h2, h3, h4⟩ := h
 have hA := h2.old R.inK
 exact ⟨q, h1, hA, R.from_old h3 hA, h4.keep (Nat.le_refl _) fun _ hF _ => ⟨rfl, fun hk => hF (R.inK _ hk)⟩⟩
section
variable {w : World} {K : Nat → Prop} {g : Nat} {s : Bs} {T : List Tk} {Ar : Option Addr} {c0 n i : Nat} {cut : Bool} {e : Nat → Tr.St}
theorem ExD.step {w0 : World} {h kind F : Nat} {cc : Nat} {c1 : Bool} {st : Tr.St} (X : Txq s T) (E : ExD F g s T Ar c0 n e) (S : StQ w0 K g h kind s T Ar c0 n i cc c1 st w) (hc : cc ≤ 1000) :
  Calls Tryz.prog F #[.pointer (some ⟨g, 0, none⟩), .pointer (some ⟨h, 0, none⟩)] w fun e' w' => e' = .returned (.tuple #[]) ∧ StQ w0 K g h kind s T Ar c0 n i (cc + 1) c1 (Tr.thn st e) w' :=
 (E.calls w K st.2 h kind st.1 _ S.R S.B (by have := S.len X hc; omega)).mono fun _ _ he => S.step E.adv he
set_option maxHeartbeats 4000000 in
set_option maxRecDepth 100000 in
theorem rpart_walk (hn : n ≤ 1000) (E : ExD 95 g s T Ar c0 (n + 1) e) : ExD 128 g s T Ar c0 n e := by
 refine ⟨E.adv, fun w K i h kind pts cut R hb hl => ?_⟩
 obtain ⟨_, _, _, g3, _⟩ := R.cells
 have gf := R.rd.frozen 3
 have a0 : IntKind.i64.wrap ((n : Int) + 1) = (n : Int) + 1 := IntWalk.i64_in _ (by omega)
 have ha := (Aft.refl (Old w) g w).set 3 (.int .i64 ((n + 1 : Nat) : Int))
 have R1 := R.deep (n + 1)
 have B1 := hb.aft ha R.kg
 have hx := E.calls _ K i h kind pts cut R1 B1 hl
 have ha := ha.old R.inK
 rw [show ((n + 1 : Nat) : Int) = (n : Int) + 1 by omega] at ha hx
 clear R hb B1 R1
 generalize (cut || Tr.deepsB (e i).1) = cut2 at *
 generalize Tr.thn (pts, i) e = st at *
 go_enter Tryz.func128, Tryz.ntmps128
 go_wp2_with fail
 refine hx.mono ?_
 clear hx g3 gf
 intro e1 w2 h2
 obtain ⟨rfl, hA2, R2, B2⟩ := h2
 have hA := ha.trans hA2
 clear ha hA2
 obtain ⟨_, _, _, g3, _⟩ := R2.cells
 rw [show ((n + 1 : Nat) : Int) = (n : Int) + 1 by omega] at g3
 have gf := R2.rd.frozen 3
 have a1 : IntKind.i64.wrap ((n : Int) + 1 - 1) = (n : Int) := by rw [show (n : Int) + 1 - 1 = n by omega]; exact IntWalk.i64_in _ (by omega)
 go_wp2_with fail
 go_end0
 refine ⟨rfl, hA.set 3 _, R2.deep n, B2.aft ((Aft.refl (Old w2) g w2).set 3 _) R2.kg⟩
set_option maxHeartbeats 8000000 in
set_option maxRecDepth 100000 in
theorem rlist_walk (b : Nat) (X : Txq s T) (E : ExD 128 g s T Ar c0 n e) (R : Rdq w K g s T Ar c0 n i cut) (kl : Nat) (shut : Bs) :
  Calls Tryz.prog 204 #[.pointer (some ⟨g, 0, none⟩), .int .i64 (kl : Int), .string ⟨shut.toArray⟩] w (PtQ w K g s T Ar c0 n cut (Tr.listP s T b e kl shut i)) := by
 refine Calls.mono ?_ fun _ _ h => PtQ.old R h
 have S := node_q R kl
 obtain ⟨st, hst0⟩ : ∃ st, st = Tr.takeP s T b i := ⟨_, rfl⟩
 obtain ⟨st2, hst2⟩ : ∃ st2, st2 = (if Tr.isP s T [shut] st.2 then st else Tr.manyP s T b e (T.length + 1) (Tr.thn st e)) := ⟨_, rfl⟩
 obtain ⟨st3, hst3⟩ : ∃ st3, st3 = Tr.thn st2 (Tr.wantP s T b shut) := ⟨_, rfl⟩
 have HPP : Hid (Tr.listP s T b e kl shut i = (.branch kl (Tr.placeP s T b i) st3.1, st3.2)) := by show _ = _; rw [hst3, hst2, hst0]; rfl
 rw [HPP.out]
 clear HPP
 generalize Tr.placeP s T b i = pl at *
 have Hst0 := Lib.hid hst0
 have Hst3 := Lib.hid hst3
 have HT : Hid (Tr.isP s T [shut] st.2 = true → st = st2) := fun h => by rw [hst2, if_pos h]
 have HF : Hid (Tr.isP s T [shut] st.2 = false → Tr.manyP s T b e (T.length + 1) (Tr.thn st e) = st2) := fun h => by rw [hst2, if_neg (by rw [h]; simp)]
 clear hst0 hst2 hst3
 obtain ⟨hp0, hhp0⟩ : ∃ x, x = w.heap.size := ⟨_, rfl⟩
 rw [← hhp0] at S
 clear R
 go_enter Tryz.func204, Tryz.ntmps204
 go_upto_region 2 with fail
 rw [← hhp0]
 clear hhp0
 generalize w.alloc (.cells #[.int .i64 (kl : Int), .int .i64 0, .string ⟨#[]⟩, .slice none 0 0, .int .i64 0, .int .i64 0, .int .i64 0, .int .i64 0, .bool false] 121) = w1 at *
 have htk := take_q b X S (by omega)
 rw [rthn_nil, ← Hst0.out] at htk
 clear S
 go_wp2_with fail
 refine htk.mono ?_
 clear htk
 rintro e1 w2 ⟨rfl, S⟩
 have his := is_q X S shut
 clear S
 generalize Tr.isP s T [shut] st.2 = vb at *
 go_wp2_with fail
 refine his.mono ?_
 clear his
 rintro e1 w3 ⟨rfl, S⟩
 go_upto_if 20 with fail
 go_cut [20] (fun _ wc => StQ w (Old w) g hp0 kl s T Ar c0 n i 2 cut st2 wc)
 case first =>
  cases vb with
  | true =>
   have hst := HT.out rfl
   subst hst
   go_wp2_with fail
   go_meet
   exact S.mono (by omega)
  | false =>
   have Hst := Lib.hid (HF.out rfl)
   clear HT HF
   have hnm := E.step X S (by omega)
   clear S
   go_wp2_with fail
   refine hnm.mono ?_
   clear hnm
   rintro e1 w4 ⟨rfl, S⟩
   replace S := S.mono (d := 2) (by omega)
   have his := is_q X S [44]
   clear S
   go_wp2_with fail
   refine his.mono ?_
   clear his
   rintro e1 w6 ⟨rfl, S⟩
   go_wp2_with fail
   go_loopg [9] (T.length - (Tr.thn st e).2) (fun q v wr => ∃ y : Tr.St, v = .bool (Tr.isP s T [[44]] y.2) ∧ (Tr.thn st e).2 ≤ y.2 ∧ T.length - y.2 ≤ q ∧ Hid (Tr.manyP s T b e (T.length + 1) y = st2) ∧ StQ w (Old w) g hp0 kl s T Ar c0 n i 2 cut y wr)
   case atStart => exact ⟨_, rfl, Nat.le_refl _, Nat.le_refl _, Hst, S⟩
   case round =>
    clear S Hst
    obtain ⟨y, rfl, hy1, hq, Hy, S⟩ := hrel
    have hyT := S.ok.2.1
    have hna := E.adv
    have Hgo : Hid (Tr.isP s T [[44]] y.2 = true → Tr.manyP s T b e (T.length + 1) (Tr.roundP s T b e y) = st2 ∧ y.2 < (Tr.roundP s T b e y).2 ∧ Tr.StOk T i 2 (Tr.roundP s T b e y)) := fun h => by
     have h1 := Tr.round_adv s T b hna y hyT (Tr.is_lt s T h)
     refine ⟨by rw [← Tr.many_step s T b hna y hyT h]; exact Hy.out, h1.1, by have := S.ok.1; omega, h1.2.1, by have := S.ok.2.2; have := S.ok.1; omega⟩
    have Hst : Hid (Tr.isP s T [[44]] y.2 = false → y = st2) := fun h => by rw [← Tr.many_stop s T b e y h]; exact Hy.out
    generalize Tr.isP s T [[44]] y.2 = vc at *
    cases vc with
    | true =>
     obtain ⟨hg1, hg2, hg3⟩ := Hgo.out rfl
     have Hg1 := Lib.hid hg1
     clear Hgo Hst Hy hg1 hna
     have htk := take_q b X S (by omega)
     clear S
     go_wp2_with fail
     refine htk.mono ?_
     clear htk
     rintro e1 w6 ⟨rfl, S⟩
     have hnm := E.step X S (by omega)
     clear S
     go_wp2_with fail
     refine hnm.mono ?_
     clear hnm
     rintro e1 w7 ⟨rfl, S⟩
     have hS : StQ w (Old w) g hp0 kl s T Ar c0 n i 2 cut (Tr.roundP s T b e y) w7 := ⟨S.A, S.R, S.B, hg3⟩
     clear S
     have his := is_q X hS [44]
     clear hS
     go_wp2_with fail
     refine his.mono ?_
     clear his
     rintro e1 w8 ⟨rfl, S⟩
     go_wp2_with fail
     go_roundg (T.length - (Tr.roundP s T b e y).2)
     case rel => exact ⟨_, rfl, by omega, Nat.le_refl _, Hg1, S⟩
     case measure => have := hg3.2.1; omega
    | false =>
     have hst := Hst.out rfl
     clear Hgo Hst Hy hna
     subst hst
     go_wp2_with fail
     go_meet
     exact S
 case rest =>
  clear HT HF S
  have S := hcut
  clear hcut
  have hwt := want_q b X S shut (by omega)
  rw [← Hst3.out] at hwt
  clear S
  go_wp2_with fail
  refine hwt.mono ?_
  clear hwt
  rintro e1 w4 ⟨rfl, S⟩
  go_wp2_with fail
  go_ret
  refine ⟨hp0, rfl, S.A, ?_, S.B.part pl⟩
  have := S.R
  rwa [show Tr.deepB (.branch kl pl st3.1) = Tr.deepsB st3.1 from by simp only [Tr.deepB]]
theorem Rn.two {w0 : World} {a kind : Nat} {p x : Tr.PT} {q u : Nat} (hK : In K w0) (hs : w0.heap.size ≤ w.heap.size) (hp : Rn w (fun y => ¬ K y ∧ y < w0.heap.size) p (.pointer (some ⟨q, 0, none⟩))) (hx : Rn w (fun y => ¬ Old w0 y) x (.pointer (some ⟨u, 0, none⟩))) :
  Rn ((w.alloc (.cells #[.pointer (some ⟨q, 0, none⟩), .pointer (some ⟨u, 0, none⟩)] 33)).alloc (.cells #[.int .i64 (kind : Int), .int .i64 0, .string ⟨#[]⟩, .slice (some ⟨w.heap.size, 0, none⟩) 2 2, .int .i64 0, .int .i64 0, .int .i64 0, .int .i64 0, .bool false] 121)) (fun y => ¬ K y) (.branch kind a [p, x]) (.pointer (some ⟨w.heap.size + 1, 0, none⟩)) := by
 obtain ⟨fp, hp, hn⟩ := hp
 obtain ⟨fx, hx, hm⟩ := hx
 have hd : Below w.heap.size w ((w.alloc (.cells #[.pointer (some ⟨q, 0, none⟩), .pointer (some ⟨u, 0, none⟩)] 33)).alloc (.cells #[.int .i64 (kind : Int), .int .i64 0, .string ⟨#[]⟩, .slice (some ⟨w.heap.size, 0, none⟩) 2 2, .int .i64 0, .int .i64 0, .int .i64 0, .int .i64 0, .bool false] 121)) := ((Below.refl _ _).alloc (Nat.le_refl _) _).alloc (by simp) _
 have hz : (w.alloc (.cells #[.pointer (some ⟨q, 0, none⟩), .pointer (some ⟨u, 0, none⟩)] 33)).heap.size = w.heap.size + 1 := by simp
 have hB := Blk.new (w.alloc (.cells #[.pointer (some ⟨q, 0, none⟩), .pointer (some ⟨u, 0, none⟩)] 33)) 121 #[.int .i64 (kind : Int), .int .i64 0, .string ⟨#[]⟩, .slice (some ⟨w.heap.size, 0, none⟩) 2 2, .int .i64 0, .int .i64 0, .int .i64 0, .int .i64 0, .bool false]
 rw [hz] at hB
 have hR := (Blk.new w 33 #[.pointer (some ⟨q, 0, none⟩), .pointer (some ⟨u, 0, none⟩)]).alloc (.cells #[.int .i64 (kind : Int), .int .i64 0, .string ⟨#[]⟩, .slice (some ⟨w.heap.size, 0, none⟩) 2 2, .int .i64 0, .int .i64 0, .int .i64 0, .int .i64 0, .bool false] 121)
 have hpp := RnF.fp _ _ _ hp
 have hxx := RnF.fp _ _ _ hx
 have hno : ∀ y, K y → y < w.heap.size := fun y hy => Nat.lt_of_lt_of_le (hK y hy) hs
 refine ⟨(w.heap.size + 1) :: (fp ++ fx), ⟨w.heap.size + 1, fp ++ fx, rfl, rfl, fun h => by have := hno _ h; omega, _, 2, [.pointer (some ⟨q, 0, none⟩), .pointer (some ⟨u, 0, none⟩)], hB, by simp, fun _ => ⟨w.heap.size, 0, rfl, fun h => Nat.lt_irrefl _ (hno _ h), ?_, fun j v hv => ?_⟩, fp, fx, _, _, rfl, rfl, ?_, RnsF.one ?_⟩, ?_⟩
 ·simp; omega
 ·rw [Nat.zero_add, hR.cell j]
  simpa using hv
 ·exact RnF.keep hd.size (fun y hF hl => ⟨hd.block y hl, hF.1⟩) _ _ _ hp
 ·exact RnF.keep hd.size (fun y hF hl => ⟨hd.block y hl, fun hk => hF (hK _ hk)⟩) _ _ _ hx
 ·refine List.nodup_cons.2 ⟨fun hm => ?_, List.nodup_append.2 ⟨hn, hm, fun y hy z hz e => ?_⟩⟩
  ·rcases List.mem_append.1 hm with hm | hm
   ·have := (hpp _ hm).2; omega
   ·have := (hxx _ hm).2; omega
  ·subst e
   exact (hxx _ hz).1 (hpp _ hy).1.2
set_option maxHeartbeats 8000000 in
set_option maxRecDepth 100000 in
theorem rcall_walk (b : Nat) (X : Txq s T) (E : ExD 128 g s T Ar c0 n e) (R : Rdq w K g s T Ar c0 n i cut)
  (hone : Calls Tryz.prog 203 #[.pointer (some ⟨g, 0, none⟩)] w (PtQ w K g s T Ar c0 n cut (Tr.partP s T b e i))) :
  Calls Tryz.prog 161 #[.pointer (some ⟨g, 0, none⟩)] w (PtQ w K g s T Ar c0 n cut (Tr.callP s T b e i)) := by
 have Hg1 := Tr.part_goes s T b E.adv i R.hi
 generalize hr : Tr.callP s T b e i = r
 have Hr : Hid (Tr.callsP s T b e (T.length + 1) (Tr.partP s T b e i) = r) := hr
 clear hr
 go_enter Tryz.func161, Tryz.ntmps161
 go_wp2_with fail
 refine hone.mono ?_
 clear hone
 intro e1 w1 h1
 obtain ⟨q, rfl, hA, R, hp⟩ := h1
 generalize Tr.partP s T b e i = q1 at *
 have his := ris_walk X R [40]
 go_wp2_with fail
 refine his.mono ?_
 clear his
 rintro e1 w2 ⟨rfl, hd⟩
 have hA := hA.trans (Kept.aft (Kept.below hd R.inK) g)
 have hp := hp.keep (F' := fun x => ¬ K x) hd.size (fun y hF hl => ⟨hd.block y hl, hF⟩)
 have R := R.below hd
 clear hd
 go_wp2_with fail
 go_loopg [3, 4] (T.length - q1.2) (fun m v u wr => ∃ (x : Tr.PT × Nat) (q : Nat), v = .pointer (some ⟨q, 0, none⟩) ∧ u = .bool (Tr.isP s T [[40]] x.2) ∧ q1.2 ≤ x.2 ∧ T.length - x.2 ≤ m ∧ Hid (Tr.callsP s T b e (T.length + 1) x = r) ∧ Aft K g w wr ∧ Rdq wr K g s T Ar c0 n x.2 (cut || Tr.deepB x.1) ∧ Rn wr (fun x => ¬ K x) x.1 (.pointer (some ⟨q, 0, none⟩)))
 case atStart => exact ⟨q1, q, rfl, rfl, Nat.le_refl _, Nat.le_refl _, Hr, hA, R, hp⟩
 case round =>
  clear hA R hp Hr
  obtain ⟨x, q, rfl, rfl, hx1, hq, Hx, hA, R, hp⟩ := hrel
  have hi := R.hi
  have Hstep : Hid (Tr.isP s T [[40]] x.2 = true → Tr.callsP s T b e (T.length + 1) (Tr.callR s T b e x) = r ∧ x.2 < (Tr.callR s T b e x).2) := fun h => ⟨by rw [← Tr.calls_step s T b E.adv x R.hi h]; exact Hx.out, Tr.list_gt s T b E.adv 12 [41] x.2 R.hi (Tr.is_lt s T h)⟩
  have Hstop : Hid (Tr.isP s T [[40]] x.2 = false → x = r) := fun h => by rw [← Tr.calls_stop s T b e x h]; exact Hx.out
  generalize Tr.isP s T [[40]] x.2 = vb at *
  cases vb with
  | true =>
   obtain ⟨hst, hgt⟩ := Hstep.out rfl
   have Hst := Lib.hid hst
   clear Hstep Hstop Hx hst
   have hxr : Hid (Tr.callR s T b e x = (.branch 11 x.1.from_ [x.1, (Tr.listP s T b e 12 [41] x.2).1], (Tr.listP s T b e 12 [41] x.2).2)) := rfl
   generalize x.1.from_ = fr at *
   have hls : Calls Tryz.prog 204 #[.pointer (some ⟨g, 0, none⟩), .int .i64 12, .string ⟨#[41]⟩] wr (PtQ wr (Old wr) g s T Ar c0 n (cut || Tr.deepB x.1) (Tr.listP s T b e 12 [41] x.2)) := rlist_walk b X E R.old 12 [41]
   generalize Tr.listP s T b e 12 [41] x.2 = lr at *
   go_wp2_with fail
   refine hls.mono ?_
   clear hls
   intro e1 w4 h4
   obtain ⟨u, rfl, hA4, R4, hu⟩ := h4
   have hK0 := R.inK
   have hp4 : Rn w4 (fun y => ¬ K y ∧ y < wr.heap.size) x.1 (.pointer (some ⟨q, 0, none⟩)) := hp.keep hA4.size fun y hF hl => ⟨hA4.oth y hl fun e => hF (e ▸ R.kg), hF, hl⟩
   have h2 : Rn ((w4.alloc (.cells #[.pointer (some ⟨q, 0, none⟩), .pointer (some ⟨u, 0, none⟩)] 33)).alloc (.cells #[.int .i64 11, .int .i64 0, .string ⟨#[]⟩, .slice (some ⟨w4.heap.size, 0, none⟩) 2 2, .int .i64 0, .int .i64 0, .int .i64 0, .int .i64 0, .bool false] 121)) (fun y => ¬ K y) (.branch 11 fr [x.1, lr.1]) (.pointer (some ⟨w4.heap.size + 1, 0, none⟩)) := Rn.two hK0 hA4.size hp4 hu
   have hd : Below w4.heap.size w4 ((w4.alloc (.cells #[.pointer (some ⟨q, 0, none⟩), .pointer (some ⟨u, 0, none⟩)] 33)).alloc (.cells #[.int .i64 11, .int .i64 0, .string ⟨#[]⟩, .slice (some ⟨w4.heap.size, 0, none⟩) 2 2, .int .i64 0, .int .i64 0, .int .i64 0, .int .i64 0, .bool false] 121)) := ((Below.refl _ _).alloc (Nat.le_refl _) _).alloc (by simp) _
   have hA4 := hA4.old hK0
   have R4 := R.from_old R4 hA4
   have hA := (hA.trans hA4).trans (Kept.aft (Kept.below hd R4.inK) g)
   have R4 := R4.below hd
   have R5 : Rdq ((w4.alloc (.cells #[.pointer (some ⟨q, 0, none⟩), .pointer (some ⟨u, 0, none⟩)] 33)).alloc (.cells #[.int .i64 11, .int .i64 0, .string ⟨#[]⟩, .slice (some ⟨w4.heap.size, 0, none⟩) 2 2, .int .i64 0, .int .i64 0, .int .i64 0, .int .i64 0, .bool false] 121)) K g s T Ar c0 n (Tr.callR s T b e x).2 (cut || Tr.deepB (Tr.callR s T b e x).1) := by
    rw [hxr.out]
    have e2 : (cut || Tr.deepB (Tr.PT.branch 11 fr [x.1, lr.1])) = ((cut || Tr.deepB x.1) || Tr.deepB lr.1) := by simp only [Tr.deepB, Tr.deepsB, Bool.or_false, Bool.or_assoc]
    rw [e2]
    exact R4
   have h2 : Rn ((w4.alloc (.cells #[.pointer (some ⟨q, 0, none⟩), .pointer (some ⟨u, 0, none⟩)] 33)).alloc (.cells #[.int .i64 11, .int .i64 0, .string ⟨#[]⟩, .slice (some ⟨w4.heap.size, 0, none⟩) 2 2, .int .i64 0, .int .i64 0, .int .i64 0, .int .i64 0, .bool false] 121)) (fun y => ¬ K y) (Tr.callR s T b e x).1 (.pointer (some ⟨w4.heap.size + 1, 0, none⟩)) := by rw [hxr.out]; exact h2
   clear R4 hd hp4 hA4 hu hxr hp R hi
   generalize Tr.callR s T b e x = y at *
   have his := ris_walk X R5 [40]
   obtain ⟨q5, hq5⟩ : ∃ q5, q5 = w4.heap.size + 1 := ⟨_, rfl⟩
   rw [← hq5] at h2
   go_upto_region 6 with fail
   rw [← hq5]
   clear hq5
   generalize ((w4.alloc (.cells #[.pointer (some ⟨q, 0, none⟩), .pointer (some ⟨u, 0, none⟩)] 33)).alloc (.cells #[.int .i64 11, .int .i64 0, .string ⟨#[]⟩, .slice (some ⟨w4.heap.size, 0, none⟩) 2 2, .int .i64 0, .int .i64 0, .int .i64 0, .int .i64 0, .bool false] 121)) = w5 at *
   go_wp2_with fail
   refine his.mono ?_
   clear his
   rintro e1 w6 ⟨rfl, hd⟩
   have hA := hA.trans (Kept.aft (Kept.below hd R5.inK) g)
   have hp := h2.keep (F' := fun x => ¬ K x) hd.size (fun y hF hl => ⟨hd.block y hl, hF⟩)
   have R := R5.below hd
   clear hd h2 R5
   go_wp2_with fail
   go_roundg (T.length - y.2)
   case rel => exact ⟨y, q5, rfl, rfl, by omega, Nat.le_refl _, Hst, hA, R, hp⟩
   case measure => have h2 : y.2 ≤ T.length := R.hi; omega
  | false =>
   have hst := Hstop.out rfl
   clear Hstep Hstop Hx
   subst hst
   go_wp2_with fail
   go_ret
   exact ⟨q, rfl, hA, R, hp⟩
end
structure LvD (g : Nat) (s : Bs) (T : List Tk) (Ar : Option Addr) (c0 n k : Nat) (one : Nat → Tr.PT × Nat) : Prop where
 goes : Tr.Goes T one
 calls : ∀ (w : World) (K : Nat → Prop) (i : Nat) (cut : Bool), Rdq w K g s T Ar c0 n i cut → Calls Tryz.prog 129 #[.pointer (some ⟨g, 0, none⟩), .int .i64 (k : Int)] w (PtQ w K g s T Ar c0 n cut (one i))
section
variable {w : World} {K : Nat → Prop} {g : Nat} {s : Bs} {T : List Tk} {Ar : Option Addr} {c0 n i : Nat} {cut : Bool} {e : Nat → Tr.St}
theorem Bn.around {p : Tr.PT} {q : Nat} (hK : In K w) (kind : Nat) (hp : Rn w (fun y => ¬ K y) p (.pointer (some ⟨q, 0, none⟩))) :
  Bn ((w.alloc (.cells #[.pointer (some ⟨q, 0, none⟩)] 33)).alloc (.cells #[.int .i64 (kind : Int), .int .i64 0, .string ⟨#[]⟩, .slice (some ⟨w.heap.size, 0, none⟩) 1 1, .int .i64 0, .int .i64 0, .int .i64 0, .int .i64 0, .bool false] 121)) K (w.heap.size + 1) kind [p] := by
 obtain ⟨fp, hp, hn⟩ := hp
 have hd : Below w.heap.size w ((w.alloc (.cells #[.pointer (some ⟨q, 0, none⟩)] 33)).alloc (.cells #[.int .i64 (kind : Int), .int .i64 0, .string ⟨#[]⟩, .slice (some ⟨w.heap.size, 0, none⟩) 1 1, .int .i64 0, .int .i64 0, .int .i64 0, .int .i64 0, .bool false] 121)) := ((Below.refl _ _).alloc (Nat.le_refl _) _).alloc (by simp) _
 have hz : (w.alloc (.cells #[.pointer (some ⟨q, 0, none⟩)] 33)).heap.size = w.heap.size + 1 := by simp
 have hB := Blk.new (w.alloc (.cells #[.pointer (some ⟨q, 0, none⟩)] 33)) 121 #[.int .i64 (kind : Int), .int .i64 0, .string ⟨#[]⟩, .slice (some ⟨w.heap.size, 0, none⟩) 1 1, .int .i64 0, .int .i64 0, .int .i64 0, .int .i64 0, .bool false]
 rw [hz] at hB
 refine ⟨fp, some ⟨w.heap.size, 0, none⟩, 1, [.pointer (some ⟨q, 0, none⟩)], ⟨fun h => by have := hK _ h; omega, hB, ?_, ?_, ?_, hn⟩⟩
 ·exact (World.ownsRow_lit (base := 0) (e := 33) (size := 1) w #[.pointer (some ⟨q, 0, none⟩)] 1 (Nat.zero_le _) (by unfold maxLen; omega) rfl).alloc _
 ·intro x hx
  simp only [Value.ownBlock, Option.some.injEq] at hx
  subst hx
  exact fun h => Nat.lt_irrefl _ (hK _ h)
 ·exact RnsF.one (RnF.keep hd.size (fun x hF hl => ⟨hd.block x hl, hF, by omega, fun e => by simp only [Value.ownBlock, Option.some.injEq] at e; omega⟩) _ _ _ hp)
set_option maxHeartbeats 8000000 in
set_option maxRecDepth 100000 in
theorem rlevel2_walk (b : Nat) {one : Nat → Tr.PT × Nat} (X : Txq s T) (L : LvD g s T Ar c0 n 3 one) : LvD g s T Ar c0 n 2 (Tr.rowP s T b one [[42]]) := by
 refine ⟨Tr.row_goes s T b L.goes [[42]], fun w K i cut R => ?_⟩
 obtain ⟨i0, ji, jz0, jz1, jz2⟩ := info_parts infoRN
 have hL : Calls Tryz.prog 129 #[.pointer (some ⟨g, 0, none⟩), .int .i64 3] w (PtQ w K g s T Ar c0 n cut (one i)) := L.calls w K i cut R
 have hg0 := L.goes i R.hi
 generalize hr : Tr.rowP s T b one [[42]] i = r
 have Hr : Hid (Tr.rowsP s T b one [[42]] (T.length + 1) (one i) = r) := hr
 clear hr
 go_enter Tryz.func129, Tryz.ntmps129
 go_wp2_with fail
 refine hL.mono ?_
 clear hL R
 intro e1 w1 h1
 obtain ⟨q, rfl, hA, R, hp⟩ := h1
 generalize one i = q1 at *
 go_wp2_with fail
 go_loopg [6] (T.length - q1.2) (fun m v wr => ∃ (x : Tr.PT × Nat) (q : Nat), v = .pointer (some ⟨q, 0, none⟩) ∧ q1.2 ≤ x.2 ∧ T.length - x.2 ≤ m ∧ Hid (Tr.rowsP s T b one [[42]] (T.length + 1) x = r) ∧ Aft K g w wr ∧ Rdq wr K g s T Ar c0 n x.2 (cut || Tr.deepB x.1) ∧ Rn wr (fun x => ¬ K x) x.1 (.pointer (some ⟨q, 0, none⟩)))
 case atStart => exact ⟨q1, q, rfl, Nat.le_refl _, Nat.le_refl _, Hr, hA, R, hp⟩
 case round =>
  clear hA R hp Hr
  obtain ⟨x, q, rfl, hx1, hq, Hx, hA, R, hp⟩ := hrel
  have hi := R.hi
  have Hstep : Hid (Tr.isP s T [[42]] x.2 = true → Tr.rowsP s T b one [[42]] (T.length + 1) (Tr.binP s T b one x) = r ∧ x.2 < (Tr.binP s T b one x).2) := fun h => ⟨by rw [← Tr.rows_step s T b L.goes [[42]] x hi h]; exact Hx.out, Tr.bin_gt s T b L.goes x hi (Tr.is_lt s T h)⟩
  have Hstop : Hid (Tr.isP s T [[42]] x.2 = false → x = r) := fun h => by rw [← Tr.rows_stop s T b one [[42]] x h]; exact Hx.out
  clear Hx
  have his : ∀ (y : Bs) (w' : World), Below wr.heap.size wr w' → Calls Tryz.prog 90 #[.pointer (some ⟨g, 0, none⟩), .string ⟨y.toArray⟩] w' fun e' w'' => e' = .returned (.bool (Tr.isP s T [y] x.2)) ∧ Below wr.heap.size wr w'' := fun y w' hd => (ris_walk X (R.below hd) y).mono fun _ _ h => ⟨h.1, hd.trans (h.2.mono hd.size)⟩
  have hs0 := his [42]
  clear his
  generalize Tr.isP s T [[42]] x.2 = va at *
  go_upto_if 25 with fail
  go_cut [7] (fun z wc => z = .bool va ∧ Below wr.heap.size wr wc)
  case first =>
   have hs0 := hs0 wr (Below.refl _ _)
   go_wp2_with fail
   refine hs0.mono ?_
   clear hs0
   rintro e1 wi0 ⟨rfl, hd0⟩
   ·go_wp2_with fail
    go_meet
    exact ⟨rfl, hd0⟩
  case rest =>
   obtain ⟨rfl, hd⟩ := hcut
   have hA := hA.trans (Kept.aft (Kept.below hd R.inK) g)
   have hp := hp.keep (F' := fun x => ¬ K x) hd.size (fun y hF hl => ⟨hd.block y hl, hF⟩)
   have R := R.below hd
   clear hd hs0
   cases va with
   | false =>
    have hst := Hstop.out rfl
    clear Hstep Hstop
    subst hst
    go_wp2_with fail
    go_ret
    exact ⟨q, rfl, hA, R, hp⟩
   | true =>
    obtain ⟨hst, hgt⟩ := Hstep.out rfl
    have Hst := Lib.hid hst
    clear Hstep Hstop hst
    have B1 : Bn (((wc).alloc (.cells #[.pointer (some ⟨q, 0, none⟩)] 33)).alloc (.cells #[.int .i64 10, .int .i64 0, .string ⟨#[]⟩, .slice (some ⟨wc.heap.size, 0, none⟩) 1 1, .int .i64 0, .int .i64 0, .int .i64 0, .int .i64 0, .bool false] 121)) K (wc.heap.size + 1) 10 [x.1] := Bn.around R.inK 10 hp
    have hd : Below wc.heap.size wc (((wc).alloc (.cells #[.pointer (some ⟨q, 0, none⟩)] 33)).alloc (.cells #[.int .i64 10, .int .i64 0, .string ⟨#[]⟩, .slice (some ⟨wc.heap.size, 0, none⟩) 1 1, .int .i64 0, .int .i64 0, .int .i64 0, .int .i64 0, .bool false] 121)) := ((Below.refl _ _).alloc (Nat.le_refl _) _).alloc (by simp) _
    have hA := hA.trans (Kept.aft (Kept.below hd R.inK) g)
    have R := R.below hd
    clear hd hp
    obtain ⟨hm, hhm⟩ : ∃ hm, hm = wc.heap.size + 1 := ⟨_, rfl⟩
    rw [← hhm] at B1
    go_upto_region 19 with fail
    rw [← hhm]
    clear hhm
    generalize (((wc).alloc (.cells #[.pointer (some ⟨q, 0, none⟩)] 33)).alloc (.cells #[.int .i64 10, .int .i64 0, .string ⟨#[]⟩, .slice (some ⟨wc.heap.size, 0, none⟩) 1 1, .int .i64 0, .int .i64 0, .int .i64 0, .int .i64 0, .bool false] 121)) = w2 at *
    have htk := rtake_walk b X R B1 (by simp)
    clear B1
    go_wp2_with fail
    refine htk.mono ?_
    clear htk R
    intro e1 w3 h3
    obtain ⟨rfl, hA3, R, hb⟩ := h3
    have hA := hA.trans hA3
    clear hA3
    have htl : (Tr.thn ([x.1], x.2) (Tr.takeP s T b)).1.length ≤ 10000000 := by
     have h1 := Tr.take_len s T b x.2 hi
     have h2 := Tr.to_le T x.2
     have h3 := X.hT
     unfold Tr.thn
     simp only [List.length_append, List.length_singleton]
     omega
    have hgo := L.goes (Tr.thn ([x.1], x.2) (Tr.takeP s T b)).2 R.hi
    have Hbin : Hid (Tr.binP s T b one x = (.branch 10 x.1.from_ ((Tr.thn ([x.1], x.2) (Tr.takeP s T b)).1 ++ [(one (Tr.thn ([x.1], x.2) (Tr.takeP s T b)).2).1]), (one (Tr.thn ([x.1], x.2) (Tr.takeP s T b)).2).2)) := rfl
    have Hdeep : Hid (Tr.deepB (Tr.binP s T b one x).1 = (Tr.deepB x.1 || Tr.deepB (one (Tr.thn ([x.1], x.2) (Tr.takeP s T b)).2).1)) := by
     show _ = _
     rw [Hbin.out]
     have hc := take_calm s T b x.2
     simp only [Tr.deepB, Tr.deepsB, Tr.deeps_app, Tr.thn, List.cons_append, List.nil_append, hc, Bool.or_false, Bool.false_or]
    generalize (Tr.thn ([x.1], x.2) (Tr.takeP s T b)) = st at *
    have hL : Calls Tryz.prog 129 #[.pointer (some ⟨g, 0, none⟩), .int .i64 3] w3 (PtQ w3 (Old w3) g s T Ar c0 n (cut || Tr.deepB x.1) (one st.2)) := L.calls w3 _ st.2 _ R.old
    generalize one st.2 = y at *
    go_wp2_with fail
    refine hL.mono ?_
    clear hL
    intro e1 w4 h4
    obtain ⟨u, rfl, hA4, R4, hu⟩ := h4
    obtain ⟨fps, A, c, vs, hb⟩ := hb
    have hp := Rnew.of hu R.inK hb
    have hb := hb.aft hA4 R.kg (fun _ hx => hx)
    have hA4 := hA4.old R.inK
    have R := R.from_old R4 hA4
    have hA := hA.trans hA4
    clear hA4 R4 hu
    have o1 := hb.blk.cell 3
    simp [nodeC] at o1
    have hhl := hb.blk.lt
    obtain ⟨pts, hpts⟩ : ∃ pts, pts = st.1 := ⟨_, rfl⟩
    rw [← hpts] at Hbin hp hb o1 htl
    clear hpts hgo
    generalize Tr.binP s T b one x = xb at *
    have Hgt := Lib.hid hgt
    clear hgt
    go_wp2_with (at_builtin; refine wpList_append_lies _ rfl _ _ 66 rfl 0 33 i0 _ 1 8 Tryz.underlying66 ji jz0 jz1 jz2 rfl (by omega) (.slice A pts.length c) pts.length vs rfl (hb.own.alloc (.cells #[.pointer (some ⟨u, 0, none⟩)] 33)) ⟨w4.heap.size, 0, none⟩ 1 1 [.pointer (some ⟨u, 0, none⟩)] rfl rfl (World.news_of_block (heap_alloc_new w4 _)) (by simp [Value.oneCell']) (by omega) (by unfold maxLen; omega) (by omega) (Nat.zero_le _) (w4.heap.size + 1) (by simp) ?_; intro gg cap' w5 hown5 hgrow hat hlt5; obtain ⟨b1, bf, hB, hk, R5⟩ := node_push R hb hp hown5 hgrow hat)
    go_roundg (T.length - xb.2)
    case rel =>
     have hR6 : Rdq (w5.setCell ⟨hm, 3, none⟩ (.slice (some ⟨gg, 0, none⟩) (pts.length + 1) cap')) K g s T Ar c0 n xb.2 (cut || Tr.deepB xb.1) := by
      rw [Hdeep.out, Hbin.out, ← Bool.or_assoc]
      exact R5
     have hp6 : Rn (w5.setCell ⟨hm, 3, none⟩ (.slice (some ⟨gg, 0, none⟩) (pts.length + 1) cap')) (fun x => ¬ K x) xb.1 (.pointer (some ⟨hm, 0, none⟩)) := by
      rw [Hbin.out]
      exact hB.part _
     have hA6 := hA.trans (hk.aft g)
     have hgt := Hgt.out
     exact ⟨xb, hm, rfl, by omega, Nat.le_refl _, Hst, hA6, hR6, hp6⟩
    case measure =>
     have hgt := Hgt.out
     have h2 : xb.2 ≤ T.length := by rw [Hbin.out]; exact R5.hi
     omega
set_option maxHeartbeats 8000000 in
set_option maxRecDepth 100000 in
theorem rlevel1_walk (b : Nat) {one : Nat → Tr.PT × Nat} (X : Txq s T) (L : LvD g s T Ar c0 n 2 one) : LvD g s T Ar c0 n 1 (Tr.rowP s T b one [[43], [45], [43, 43]]) := by
 refine ⟨Tr.row_goes s T b L.goes [[43], [45], [43, 43]], fun w K i cut R => ?_⟩
 obtain ⟨i0, ji, jz0, jz1, jz2⟩ := info_parts infoRN
 have hL : Calls Tryz.prog 129 #[.pointer (some ⟨g, 0, none⟩), .int .i64 2] w (PtQ w K g s T Ar c0 n cut (one i)) := L.calls w K i cut R
 have hg0 := L.goes i R.hi
 generalize hr : Tr.rowP s T b one [[43], [45], [43, 43]] i = r
 have Hr : Hid (Tr.rowsP s T b one [[43], [45], [43, 43]] (T.length + 1) (one i) = r) := hr
 clear hr
 go_enter Tryz.func129, Tryz.ntmps129
 go_wp2_with fail
 refine hL.mono ?_
 clear hL R
 intro e1 w1 h1
 obtain ⟨q, rfl, hA, R, hp⟩ := h1
 generalize one i = q1 at *
 go_wp2_with fail
 go_loopg [6] (T.length - q1.2) (fun m v wr => ∃ (x : Tr.PT × Nat) (q : Nat), v = .pointer (some ⟨q, 0, none⟩) ∧ q1.2 ≤ x.2 ∧ T.length - x.2 ≤ m ∧ Hid (Tr.rowsP s T b one [[43], [45], [43, 43]] (T.length + 1) x = r) ∧ Aft K g w wr ∧ Rdq wr K g s T Ar c0 n x.2 (cut || Tr.deepB x.1) ∧ Rn wr (fun x => ¬ K x) x.1 (.pointer (some ⟨q, 0, none⟩)))
 case atStart => exact ⟨q1, q, rfl, Nat.le_refl _, Nat.le_refl _, Hr, hA, R, hp⟩
 case round =>
  clear hA R hp Hr
  obtain ⟨x, q, rfl, hx1, hq, Hx, hA, R, hp⟩ := hrel
  have hi := R.hi
  have Hstep : Hid (Tr.isP s T [[43], [45], [43, 43]] x.2 = true → Tr.rowsP s T b one [[43], [45], [43, 43]] (T.length + 1) (Tr.binP s T b one x) = r ∧ x.2 < (Tr.binP s T b one x).2) := fun h => ⟨by rw [← Tr.rows_step s T b L.goes [[43], [45], [43, 43]] x hi h]; exact Hx.out, Tr.bin_gt s T b L.goes x hi (Tr.is_lt s T h)⟩
  have Hstop : Hid (Tr.isP s T [[43], [45], [43, 43]] x.2 = false → x = r) := fun h => by rw [← Tr.rows_stop s T b one [[43], [45], [43, 43]] x h]; exact Hx.out
  have Hall : Hid (Tr.isP s T [[43], [45], [43, 43]] x.2 = (Tr.isP s T [[43]] x.2 || Tr.isP s T [[45]] x.2 || Tr.isP s T [[43, 43]] x.2)) := tr_is3 s T _ _ _ _
  clear Hx
  have his : ∀ (y : Bs) (w' : World), Below wr.heap.size wr w' → Calls Tryz.prog 90 #[.pointer (some ⟨g, 0, none⟩), .string ⟨y.toArray⟩] w' fun e' w'' => e' = .returned (.bool (Tr.isP s T [y] x.2)) ∧ Below wr.heap.size wr w'' := fun y w' hd => (ris_walk X (R.below hd) y).mono fun _ _ h => ⟨h.1, hd.trans (h.2.mono hd.size)⟩
  have hs0 := his [43]
  have hs1 := his [45]
  have hs2 := his [43, 43]
  clear his
  generalize Tr.isP s T [[43]] x.2 = v0 at *
  generalize Tr.isP s T [[45]] x.2 = v1 at *
  generalize Tr.isP s T [[43, 43]] x.2 = v2 at *
  generalize Tr.isP s T [[43], [45], [43, 43]] x.2 = va at *
  go_upto_if 25 with fail
  go_cut [7] (fun z wc => z = .bool va ∧ Below wr.heap.size wr wc)
  case first =>
   have hs0 := hs0 wr (Below.refl _ _)
   go_wp2_with fail
   refine hs0.mono ?_
   clear hs0
   rintro e1 wi0 ⟨rfl, hd0⟩
   have hs1 := hs1 wi0 hd0
   go_wp2_with fail
   refine hs1.mono ?_
   clear hs1
   rintro e1 wi1 ⟨rfl, hd1⟩
   have hs2 := hs2 wi1 hd1
   go_wp2_with fail
   refine hs2.mono ?_
   clear hs2
   rintro e1 wi2 ⟨rfl, hd2⟩
   cases v0 <;> cases v1 <;> cases v2 <;>
   ·go_wp2_with fail
    go_meet
    exact ⟨by rw [Hall.out]; rfl, hd2⟩
  case rest =>
   obtain ⟨rfl, hd⟩ := hcut
   have hA := hA.trans (Kept.aft (Kept.below hd R.inK) g)
   have hp := hp.keep (F' := fun x => ¬ K x) hd.size (fun y hF hl => ⟨hd.block y hl, hF⟩)
   have R := R.below hd
   clear hd hs0 hs1 hs2 Hall
   cases va with
   | false =>
    have hst := Hstop.out rfl
    clear Hstep Hstop
    subst hst
    go_wp2_with fail
    go_ret
    exact ⟨q, rfl, hA, R, hp⟩
   | true =>
    obtain ⟨hst, hgt⟩ := Hstep.out rfl
    have Hst := Lib.hid hst
    clear Hstep Hstop hst
    have B1 : Bn (((wc).alloc (.cells #[.pointer (some ⟨q, 0, none⟩)] 33)).alloc (.cells #[.int .i64 10, .int .i64 0, .string ⟨#[]⟩, .slice (some ⟨wc.heap.size, 0, none⟩) 1 1, .int .i64 0, .int .i64 0, .int .i64 0, .int .i64 0, .bool false] 121)) K (wc.heap.size + 1) 10 [x.1] := Bn.around R.inK 10 hp
    have hd : Below wc.heap.size wc (((wc).alloc (.cells #[.pointer (some ⟨q, 0, none⟩)] 33)).alloc (.cells #[.int .i64 10, .int .i64 0, .string ⟨#[]⟩, .slice (some ⟨wc.heap.size, 0, none⟩) 1 1, .int .i64 0, .int .i64 0, .int .i64 0, .int .i64 0, .bool false] 121)) := ((Below.refl _ _).alloc (Nat.le_refl _) _).alloc (by simp) _
    have hA := hA.trans (Kept.aft (Kept.below hd R.inK) g)
    have R := R.below hd
    clear hd hp
    obtain ⟨hm, hhm⟩ : ∃ hm, hm = wc.heap.size + 1 := ⟨_, rfl⟩
    rw [← hhm] at B1
    go_upto_region 19 with fail
    rw [← hhm]
    clear hhm
    generalize (((wc).alloc (.cells #[.pointer (some ⟨q, 0, none⟩)] 33)).alloc (.cells #[.int .i64 10, .int .i64 0, .string ⟨#[]⟩, .slice (some ⟨wc.heap.size, 0, none⟩) 1 1, .int .i64 0, .int .i64 0, .int .i64 0, .int .i64 0, .bool false] 121)) = w2 at *
    have htk := rtake_walk b X R B1 (by simp)
    clear B1
    go_wp2_with fail
    refine htk.mono ?_
    clear htk R
    intro e1 w3 h3
    obtain ⟨rfl, hA3, R, hb⟩ := h3
    have hA := hA.trans hA3
    clear hA3
    have htl : (Tr.thn ([x.1], x.2) (Tr.takeP s T b)).1.length ≤ 10000000 := by
     have h1 := Tr.take_len s T b x.2 hi
     have h2 := Tr.to_le T x.2
     have h3 := X.hT
     unfold Tr.thn
     simp only [List.length_append, List.length_singleton]
     omega
    have hgo := L.goes (Tr.thn ([x.1], x.2) (Tr.takeP s T b)).2 R.hi
    have Hbin : Hid (Tr.binP s T b one x = (.branch 10 x.1.from_ ((Tr.thn ([x.1], x.2) (Tr.takeP s T b)).1 ++ [(one (Tr.thn ([x.1], x.2) (Tr.takeP s T b)).2).1]), (one (Tr.thn ([x.1], x.2) (Tr.takeP s T b)).2).2)) := rfl
    have Hdeep : Hid (Tr.deepB (Tr.binP s T b one x).1 = (Tr.deepB x.1 || Tr.deepB (one (Tr.thn ([x.1], x.2) (Tr.takeP s T b)).2).1)) := by
     show _ = _
     rw [Hbin.out]
     have hc := take_calm s T b x.2
     simp only [Tr.deepB, Tr.deepsB, Tr.deeps_app, Tr.thn, List.cons_append, List.nil_append, hc, Bool.or_false, Bool.false_or]
    generalize (Tr.thn ([x.1], x.2) (Tr.takeP s T b)) = st at *
    have hL : Calls Tryz.prog 129 #[.pointer (some ⟨g, 0, none⟩), .int .i64 2] w3 (PtQ w3 (Old w3) g s T Ar c0 n (cut || Tr.deepB x.1) (one st.2)) := L.calls w3 _ st.2 _ R.old
    generalize one st.2 = y at *
    go_wp2_with fail
    refine hL.mono ?_
    clear hL
    intro e1 w4 h4
    obtain ⟨u, rfl, hA4, R4, hu⟩ := h4
    obtain ⟨fps, A, c, vs, hb⟩ := hb
    have hp := Rnew.of hu R.inK hb
    have hb := hb.aft hA4 R.kg (fun _ hx => hx)
    have hA4 := hA4.old R.inK
    have R := R.from_old R4 hA4
    have hA := hA.trans hA4
    clear hA4 R4 hu
    have o1 := hb.blk.cell 3
    simp [nodeC] at o1
    have hhl := hb.blk.lt
    obtain ⟨pts, hpts⟩ : ∃ pts, pts = st.1 := ⟨_, rfl⟩
    rw [← hpts] at Hbin hp hb o1 htl
    clear hpts hgo
    generalize Tr.binP s T b one x = xb at *
    have Hgt := Lib.hid hgt
    clear hgt
    go_wp2_with (at_builtin; refine wpList_append_lies _ rfl _ _ 66 rfl 0 33 i0 _ 1 8 Tryz.underlying66 ji jz0 jz1 jz2 rfl (by omega) (.slice A pts.length c) pts.length vs rfl (hb.own.alloc (.cells #[.pointer (some ⟨u, 0, none⟩)] 33)) ⟨w4.heap.size, 0, none⟩ 1 1 [.pointer (some ⟨u, 0, none⟩)] rfl rfl (World.news_of_block (heap_alloc_new w4 _)) (by simp [Value.oneCell']) (by omega) (by unfold maxLen; omega) (by omega) (Nat.zero_le _) (w4.heap.size + 1) (by simp) ?_; intro gg cap' w5 hown5 hgrow hat hlt5; obtain ⟨b1, bf, hB, hk, R5⟩ := node_push R hb hp hown5 hgrow hat)
    go_roundg (T.length - xb.2)
    case rel =>
     have hR6 : Rdq (w5.setCell ⟨hm, 3, none⟩ (.slice (some ⟨gg, 0, none⟩) (pts.length + 1) cap')) K g s T Ar c0 n xb.2 (cut || Tr.deepB xb.1) := by
      rw [Hdeep.out, Hbin.out, ← Bool.or_assoc]
      exact R5
     have hp6 : Rn (w5.setCell ⟨hm, 3, none⟩ (.slice (some ⟨gg, 0, none⟩) (pts.length + 1) cap')) (fun x => ¬ K x) xb.1 (.pointer (some ⟨hm, 0, none⟩)) := by
      rw [Hbin.out]
      exact hB.part _
     have hA6 := hA.trans (hk.aft g)
     have hgt := Hgt.out
     exact ⟨xb, hm, rfl, by omega, Nat.le_refl _, Hst, hA6, hR6, hp6⟩
    case measure =>
     have hgt := Hgt.out
     have h2 : xb.2 ≤ T.length := by rw [Hbin.out]; exact R5.hi
     omega
set_option maxHeartbeats 8000000 in
set_option maxRecDepth 100000 in
theorem rlevel0_walk (b : Nat) {one : Nat → Tr.PT × Nat} (X : Txq s T) (L : LvD g s T Ar c0 n 1 one) : LvD g s T Ar c0 n 0 (fun i => if Tr.isP s T [[61, 61], [60]] (one i).2 then Tr.binP s T b one (one i) else one i) := by
 refine ⟨fun i hi => ?_, fun w K i cut R => ?_⟩
 ·have h1 := L.goes i hi
  split
  ·have := Tr.bin_goes s T b L.goes (one i) h1.2
   omega
  ·exact h1
 obtain ⟨i0, ji, jz0, jz1, jz2⟩ := info_parts infoRN
 have hL : Calls Tryz.prog 129 #[.pointer (some ⟨g, 0, none⟩), .int .i64 1] w (PtQ w K g s T Ar c0 n cut (one i)) := L.calls w K i cut R
 have hg0 := L.goes i R.hi
 generalize hr : (if Tr.isP s T [[61, 61], [60]] (one i).2 then Tr.binP s T b one (one i) else one i) = r
 have Hr : Hid ((if Tr.isP s T [[61, 61], [60]] (one i).2 then Tr.binP s T b one (one i) else one i) = r) := hr
 clear hr
 go_enter Tryz.func129, Tryz.ntmps129
 go_wp2_with fail
 refine hL.mono ?_
 clear hL R
 intro e1 w1 h1
 obtain ⟨q, rfl, hA, R, hp⟩ := h1
 generalize one i = q1 at *
 go_wp2_with fail
 go_loopg [6] (T.length - q1.2) (fun m v wr => ∃ (x : Tr.PT × Nat) (q : Nat), v = .pointer (some ⟨q, 0, none⟩) ∧ q1.2 ≤ x.2 ∧ T.length - x.2 ≤ m ∧ Hid ((if Tr.isP s T [[61, 61], [60]] x.2 then Tr.binP s T b one x else x) = r) ∧ Aft K g w wr ∧ Rdq wr K g s T Ar c0 n x.2 (cut || Tr.deepB x.1) ∧ Rn wr (fun x => ¬ K x) x.1 (.pointer (some ⟨q, 0, none⟩)))
 case atStart => exact ⟨q1, q, rfl, Nat.le_refl _, Nat.le_refl _, Hr, hA, R, hp⟩
 case round =>
  clear hA R hp Hr
  obtain ⟨x, q, rfl, hx1, hq, Hx, hA, R, hp⟩ := hrel
  have hi := R.hi
  have Hstep : Hid (Tr.isP s T [[61, 61], [60]] x.2 = true → Tr.binP s T b one x = r) := fun h => by have := Hx.out; rwa [if_pos h] at this
  have Hstop : Hid (Tr.isP s T [[61, 61], [60]] x.2 = false → x = r) := fun h => by have := Hx.out; rwa [if_neg (by rw [h]; simp)] at this
  have Hall : Hid (Tr.isP s T [[61, 61], [60]] x.2 = (Tr.isP s T [[61, 61]] x.2 || Tr.isP s T [[60]] x.2)) := tr_is2 s T _ _ _
  clear Hx
  have his : ∀ (y : Bs) (w' : World), Below wr.heap.size wr w' → Calls Tryz.prog 90 #[.pointer (some ⟨g, 0, none⟩), .string ⟨y.toArray⟩] w' fun e' w'' => e' = .returned (.bool (Tr.isP s T [y] x.2)) ∧ Below wr.heap.size wr w'' := fun y w' hd => (ris_walk X (R.below hd) y).mono fun _ _ h => ⟨h.1, hd.trans (h.2.mono hd.size)⟩
  have hs0 := his [61, 61]
  have hs1 := his [60]
  clear his
  generalize Tr.isP s T [[61, 61]] x.2 = v0 at *
  generalize Tr.isP s T [[60]] x.2 = v1 at *
  generalize Tr.isP s T [[61, 61], [60]] x.2 = va at *
  go_upto_if 25 with fail
  go_cut [7] (fun z wc => z = .bool va ∧ Below wr.heap.size wr wc)
  case first =>
   have hs0 := hs0 wr (Below.refl _ _)
   go_wp2_with fail
   refine hs0.mono ?_
   clear hs0
   rintro e1 wi0 ⟨rfl, hd0⟩
   have hs1 := hs1 wi0 hd0
   go_wp2_with fail
   refine hs1.mono ?_
   clear hs1
   rintro e1 wi1 ⟨rfl, hd1⟩
   cases v0 <;> cases v1 <;>
   ·go_wp2_with fail
    go_meet
    exact ⟨by rw [Hall.out]; rfl, hd1⟩
  case rest =>
   obtain ⟨rfl, hd⟩ := hcut
   have hA := hA.trans (Kept.aft (Kept.below hd R.inK) g)
   have hp := hp.keep (F' := fun x => ¬ K x) hd.size (fun y hF hl => ⟨hd.block y hl, hF⟩)
   have R := R.below hd
   clear hd hs0 hs1 Hall
   cases va with
   | false =>
    have hst := Hstop.out rfl
    clear Hstep Hstop
    subst hst
    go_wp2_with fail
    go_ret
    exact ⟨q, rfl, hA, R, hp⟩
   | true =>
    have Hst := Lib.hid (Hstep.out rfl)
    clear Hstep Hstop
    have B1 : Bn (((wc).alloc (.cells #[.pointer (some ⟨q, 0, none⟩)] 33)).alloc (.cells #[.int .i64 10, .int .i64 0, .string ⟨#[]⟩, .slice (some ⟨wc.heap.size, 0, none⟩) 1 1, .int .i64 0, .int .i64 0, .int .i64 0, .int .i64 0, .bool false] 121)) K (wc.heap.size + 1) 10 [x.1] := Bn.around R.inK 10 hp
    have hd : Below wc.heap.size wc (((wc).alloc (.cells #[.pointer (some ⟨q, 0, none⟩)] 33)).alloc (.cells #[.int .i64 10, .int .i64 0, .string ⟨#[]⟩, .slice (some ⟨wc.heap.size, 0, none⟩) 1 1, .int .i64 0, .int .i64 0, .int .i64 0, .int .i64 0, .bool false] 121)) := ((Below.refl _ _).alloc (Nat.le_refl _) _).alloc (by simp) _
    have hA := hA.trans (Kept.aft (Kept.below hd R.inK) g)
    have R := R.below hd
    clear hd hp
    obtain ⟨hm, hhm⟩ : ∃ hm, hm = wc.heap.size + 1 := ⟨_, rfl⟩
    rw [← hhm] at B1
    go_upto_region 19 with fail
    rw [← hhm]
    clear hhm
    generalize (((wc).alloc (.cells #[.pointer (some ⟨q, 0, none⟩)] 33)).alloc (.cells #[.int .i64 10, .int .i64 0, .string ⟨#[]⟩, .slice (some ⟨wc.heap.size, 0, none⟩) 1 1, .int .i64 0, .int .i64 0, .int .i64 0, .int .i64 0, .bool false] 121)) = w2 at *
    have htk := rtake_walk b X R B1 (by simp)
    clear B1
    go_wp2_with fail
    refine htk.mono ?_
    clear htk R
    intro e1 w3 h3
    obtain ⟨rfl, hA3, R, hb⟩ := h3
    have hA := hA.trans hA3
    clear hA3
    have htl : (Tr.thn ([x.1], x.2) (Tr.takeP s T b)).1.length ≤ 10000000 := by
     have h1 := Tr.take_len s T b x.2 hi
     have h2 := Tr.to_le T x.2
     have h3 := X.hT
     unfold Tr.thn
     simp only [List.length_append, List.length_singleton]
     omega
    have hgo := L.goes (Tr.thn ([x.1], x.2) (Tr.takeP s T b)).2 R.hi
    have Hbin : Hid (Tr.binP s T b one x = (.branch 10 x.1.from_ ((Tr.thn ([x.1], x.2) (Tr.takeP s T b)).1 ++ [(one (Tr.thn ([x.1], x.2) (Tr.takeP s T b)).2).1]), (one (Tr.thn ([x.1], x.2) (Tr.takeP s T b)).2).2)) := rfl
    have Hdeep : Hid (Tr.deepB (Tr.binP s T b one x).1 = (Tr.deepB x.1 || Tr.deepB (one (Tr.thn ([x.1], x.2) (Tr.takeP s T b)).2).1)) := by
     show _ = _
     rw [Hbin.out]
     have hc := take_calm s T b x.2
     simp only [Tr.deepB, Tr.deepsB, Tr.deeps_app, Tr.thn, List.cons_append, List.nil_append, hc, Bool.or_false, Bool.false_or]
    generalize (Tr.thn ([x.1], x.2) (Tr.takeP s T b)) = st at *
    have hL : Calls Tryz.prog 129 #[.pointer (some ⟨g, 0, none⟩), .int .i64 1] w3 (PtQ w3 (Old w3) g s T Ar c0 n (cut || Tr.deepB x.1) (one st.2)) := L.calls w3 _ st.2 _ R.old
    generalize one st.2 = y at *
    go_wp2_with fail
    refine hL.mono ?_
    clear hL
    intro e1 w4 h4
    obtain ⟨u, rfl, hA4, R4, hu⟩ := h4
    obtain ⟨fps, A, c, vs, hb⟩ := hb
    have hp := Rnew.of hu R.inK hb
    have hb := hb.aft hA4 R.kg (fun _ hx => hx)
    have hA4 := hA4.old R.inK
    have R := R.from_old R4 hA4
    have hA := hA.trans hA4
    clear hA4 R4 hu
    have o1 := hb.blk.cell 3
    simp [nodeC] at o1
    have hhl := hb.blk.lt
    obtain ⟨pts, hpts⟩ : ∃ pts, pts = st.1 := ⟨_, rfl⟩
    rw [← hpts] at Hbin hp hb o1 htl
    clear hpts hgo
    generalize Tr.binP s T b one x = xb at *
    go_wp2_with (at_builtin; refine wpList_append_lies _ rfl _ _ 66 rfl 0 33 i0 _ 1 8 Tryz.underlying66 ji jz0 jz1 jz2 rfl (by omega) (.slice A pts.length c) pts.length vs rfl (hb.own.alloc (.cells #[.pointer (some ⟨u, 0, none⟩)] 33)) ⟨w4.heap.size, 0, none⟩ 1 1 [.pointer (some ⟨u, 0, none⟩)] rfl rfl (World.news_of_block (heap_alloc_new w4 _)) (by simp [Value.oneCell']) (by omega) (by unfold maxLen; omega) (by omega) (Nat.zero_le _) (w4.heap.size + 1) (by simp) ?_; intro gg cap' w5 hown5 hgrow hat hlt5; obtain ⟨b1, bf, hB, hk, R5⟩ := node_push R hb hp hown5 hgrow hat)
    go_ret
    have hR6 : Rdq (w5.setCell ⟨hm, 3, none⟩ (.slice (some ⟨gg, 0, none⟩) (pts.length + 1) cap')) K g s T Ar c0 n xb.2 (cut || Tr.deepB xb.1) := by
     rw [Hdeep.out, Hbin.out, ← Bool.or_assoc]
     exact R5
    have hp6 : Rn (w5.setCell ⟨hm, 3, none⟩ (.slice (some ⟨gg, 0, none⟩) (pts.length + 1) cap')) (fun x => ¬ K x) xb.1 (.pointer (some ⟨hm, 0, none⟩)) := by
     rw [Hbin.out]
     exact hB.part _
    have hA6 := hA.trans (hk.aft g)
    rw [← Hst.out]
    exact ⟨hm, rfl, hA6, hR6, hp6⟩
end
theorem leafK_doc {s : Bs} {T : List Tk} (hW : Plainly s T) (i : Nat) : Tr.leafK (Tr.kindP T (Tr.nextP T i)) (Tr.textP s T (Tr.nextP T i)) =
  (if Tr.kindP T (Tr.nextP T i) = 5 then 15 else if Tr.kindP T (Tr.nextP T i) = 6 then 16 else if Tr.kindP T (Tr.nextP T i) = 3 then 18 else if Tr.isP s T [Tr.sTrue] i then 17 else if Tr.isP s T [Tr.sFalse] i then 17 else if Tr.isP s T [[63]] i then 19 else 0) := by
 unfold Tr.isP
 rw [cont1, cont1, cont1]
 by_cases hlt : Tr.nextP T i < T.length
 ·have h := hW _ (List.getElem_mem hlt)
  rw [Tr.kind_at T _ hlt, Tr.text_at s T _ hlt]
  generalize Tr.subT s T[Tr.nextP T i] = t at *
  generalize (T[Tr.nextP T i]).1 = k at *
  obtain ⟨h7, h4⟩ := h
  unfold Tr.leafK
  by_cases k4 : k = 4
  ·subst k4
   have h4 := h4 rfl
   by_cases ht : t = Tr.sTrue
   ·simp [ht]
   ·by_cases hf : t = Tr.sFalse
    ·simp [hf]
    ·simp [ht, hf, h4]
  ·by_cases k7 : k = 7
   ·subst k7
    obtain ⟨h71, h72⟩ := h7 rfl
    by_cases hq : t = [63]
    ·subst hq; simp [Tr.sTrue, Tr.sFalse]
    ·simp [h71, h72, hq]
   ·have e4 : (k == 4) = false := by simpa using k4
    have e7 : (k == 7) = false := by simpa using k7
    simp [k4, k7, e4, e7]
 ·rw [Tr.kind_end T _ (by omega)]
  simp [Tr.leafK]
section
variable {w : World} {K : Nat → Prop} {g : Nat} {s : Bs} {T : List Tk} {Ar : Option Addr} {c0 n i : Nat} {cut : Bool} {e : Nat → Tr.St}
set_option maxHeartbeats 8000000 in
set_option maxRecDepth 100000 in
theorem rone3_walk (b : Nat) (X : Txq s T) (hW : Plainly s T) (E : ExD 128 g s T Ar c0 n e) (R : Rdq w K g s T Ar c0 n i cut) :
  Calls Tryz.prog 203 #[.pointer (some ⟨g, 0, none⟩)] w (PtQ w K g s T Ar c0 n cut (Tr.partP s T b e i)) := by
 refine Calls.mono ?_ fun _ _ h => PtQ.old R h
 have R := R.old
 have HL := Lib.hid (leafK_doc hW i)
 have HP : Hid (∀ k, Tr.leafK (Tr.kindP T (Tr.nextP T i)) (Tr.textP s T (Tr.nextP T i)) = k + 1 → Tr.partP s T b e i = Tr.brP s T b (k + 1) i (Tr.takeP s T b i)) := fun k h => by
  unfold Tr.partP
  rw [h, if_pos (by omega)]
 have HG : Hid (Tr.leafK (Tr.kindP T (Tr.nextP T i)) (Tr.textP s T (Tr.nextP T i)) = 0 → Tr.isP s T [[40]] i = true → Tr.partP s T b e i = Tr.brP s T b 14 i (Tr.thn (Tr.thn (Tr.takeP s T b i) e) (Tr.wantP s T b [41]))) := fun h h2 => by
  unfold Tr.partP
  rw [h, if_neg (by omega), if_pos h2]
 have HLi : Hid (Tr.leafK (Tr.kindP T (Tr.nextP T i)) (Tr.textP s T (Tr.nextP T i)) = 0 → Tr.isP s T [[40]] i = false → Tr.isP s T [[91]] i = true → Tr.partP s T b e i = Tr.listP s T b e 13 [93] i) := fun h h2 h3 => by
  unfold Tr.partP
  rw [h, if_neg (by omega), if_neg (by rw [h2]; simp), if_pos h3]
 have HN : Hid (Tr.leafK (Tr.kindP T (Tr.nextP T i)) (Tr.textP s T (Tr.nextP T i)) = 0 → Tr.isP s T [[40]] i = false → Tr.isP s T [[91]] i = false → Tr.partP s T b e i = (.gap Tr.sExpr (Tr.placeP s T b i) false, i)) := fun h h2 h3 => by
  unfold Tr.partP
  rw [h, if_neg (by omega), if_neg (by rw [h2]; simp), if_neg (by rw [h3]; simp)]
 have hk := rkindn_walk X R
 generalize Tr.partP s T b e i = r at *
 generalize Tr.leafK (Tr.kindP T (Tr.nextP T i)) (Tr.textP s T (Tr.nextP T i)) = lk at *
 generalize Tr.kindP T (Tr.nextP T i) = kd at *
 have his : ∀ (x : Bs) (w' : World), Below w.heap.size w w' → Calls Tryz.prog 90 #[.pointer (some ⟨g, 0, none⟩), .string ⟨x.toArray⟩] w' fun e' w'' => e' = .returned (.bool (Tr.isP s T [x] i)) ∧ Below w.heap.size w w'' := fun x w' hd => (ris_walk X (R.below hd) x).mono fun _ _ h => ⟨h.1, hd.trans (h.2.mono hd.size)⟩
 have hyes := his Tr.sTrue
 have hno := his Tr.sFalse
 have hhole := his [63]
 have hgroup := his [40]
 have hlist := his [91]
 clear his
 generalize Tr.isP s T [Tr.sTrue] i = v1 at *
 generalize Tr.isP s T [Tr.sFalse] i = v2 at *
 generalize Tr.isP s T [[63]] i = v3 at *
 generalize Tr.isP s T [[40]] i = v4 at *
 generalize Tr.isP s T [[91]] i = v5 at *
 go_enter Tryz.func203, Tryz.ntmps203
 go_wp2_with fail
 refine hk.mono ?_
 clear hk
 rintro e1 w1 ⟨rfl, rfl⟩
 have hyes := hyes w1 (Below.refl _ _)
 go_wp2_with fail
 refine hyes.mono ?_
 clear hyes
 rintro e1 w2 ⟨rfl, hd⟩
 have hno := hno w2 hd
 go_wp2_with fail
 refine hno.mono ?_
 clear hno hd
 rintro e1 w3 ⟨rfl, hd⟩
 have hhole := hhole w3 hd
 go_wp2_with fail
 refine hhole.mono ?_
 clear hhole hd
 rintro e1 w4 ⟨rfl, hd⟩
 have hgroup := hgroup w4 hd
 go_wp2_with fail
 refine hgroup.mono ?_
 clear hgroup hd
 rintro e1 w5 ⟨rfl, hd⟩
 have hlist := hlist w5 hd
 go_wp2_with fail
 refine hlist.mono ?_
 clear hlist hd
 rintro e1 w6 ⟨rfl, hd⟩
 have hA := Kept.aft (Kept.below hd R.inK) g
 have R := R.below hd
 clear hd
 have hnode : ∀ (w : World) (R : Rdq w (Old w1) g s T Ar c0 n i cut) (k : Nat), StQ w (Old w) g w.heap.size k s T Ar c0 n i 0 cut ([], i) (w.alloc (.cells #[.int .i64 (k : Int), .int .i64 0, .string ⟨#[]⟩, .slice none 0 0, .int .i64 0, .int .i64 0, .int .i64 0, .int .i64 0, .bool false] 121)) := fun w R k => node_q R k
 have hfin : ∀ (w8 : World) (hp0 k : Nat) (st : Tr.St) (e' : Ending), e' = .returned (.pointer (some ⟨hp0, 0, none⟩)) → ∀ {cc : Nat}, StQ w6 (Old w6) g hp0 k s T Ar c0 n i cc cut st w8 → r = Tr.brP s T b k i st → PtQ w1 (Old w1) g s T Ar c0 n cut r e' w8 := fun w8 hp0 k st e' he cc S hr => by
  have hA1 := hA.trans (S.A.old R.inK)
  have hR := R.from_old S.R (S.A.old R.inK)
  refine ⟨hp0, he, hA1, ?_, ?_⟩
  ·rw [hr]
   have e2 : Tr.deepB (Tr.brP s T b k i st).1 = Tr.deepsB st.1 := by unfold Tr.brP; simp only [Tr.deepB]
   rw [e2]; exact hR
  ·rw [hr]
   exact (S.B.part (Tr.placeP s T b i)).keep (Nat.le_refl _) fun _ hF _ => ⟨rfl, fun hk => hF (R.inK _ hk)⟩
 by_cases k5 : kd = 5
 ·have HV : Hid (r = Tr.brP s T b 15 i (Tr.takeP s T b i)) := HP.out 14 (by rw [HL.out, if_pos k5])
  clear HL HP HG HLi HN
  subst k5
  go_upto_region 28 with fail
  have S := hnode w6 R 15
  obtain ⟨hp0, hhp0⟩ : ∃ x, x = w6.heap.size := ⟨_, rfl⟩
  rw [← hhp0] at S
  go_upto_region 29 with fail
  rw [← hhp0]
  clear hhp0
  generalize w6.alloc (.cells #[.int .i64 15, .int .i64 0, .string ⟨#[]⟩, .slice none 0 0, .int .i64 0, .int .i64 0, .int .i64 0, .int .i64 0, .bool false] 121) = w7 at *
  have htk := take_q b X S (by omega)
  rw [rthn_nil] at htk
  clear S
  go_wp2_with fail
  refine htk.mono ?_
  clear htk
  rintro e1 w8 ⟨rfl, S⟩
  go_wp2_with fail
  go_ret
  exact hfin w8 hp0 15 _ _ rfl S HV.out
 have e5 : ((kd : Int) == 5) = false := by simp; omega
 rw [if_neg k5] at HL
 clear k5
 by_cases k6 : kd = 6
 ·have HV : Hid (r = Tr.brP s T b 16 i (Tr.takeP s T b i)) := HP.out 15 (by rw [HL.out, if_pos k6])
  clear HL HP HG HLi HN e5
  subst k6
  go_upto_region 28 with fail
  have S := hnode w6 R 16
  obtain ⟨hp0, hhp0⟩ : ∃ x, x = w6.heap.size := ⟨_, rfl⟩
  rw [← hhp0] at S
  go_upto_region 29 with fail
  rw [← hhp0]
  clear hhp0
  generalize w6.alloc (.cells #[.int .i64 16, .int .i64 0, .string ⟨#[]⟩, .slice none 0 0, .int .i64 0, .int .i64 0, .int .i64 0, .int .i64 0, .bool false] 121) = w7 at *
  have htk := take_q b X S (by omega)
  rw [rthn_nil] at htk
  clear S
  go_wp2_with fail
  refine htk.mono ?_
  clear htk
  rintro e1 w8 ⟨rfl, S⟩
  go_wp2_with fail
  go_ret
  exact hfin w8 hp0 16 _ _ rfl S HV.out
 have e6 : ((kd : Int) == 6) = false := by simp; omega
 rw [if_neg k6] at HL
 clear k6
 by_cases k3 : kd = 3
 ·have HV : Hid (r = Tr.brP s T b 18 i (Tr.takeP s T b i)) := HP.out 17 (by rw [HL.out, if_pos k3])
  clear HL HP HG HLi HN e5 e6
  subst k3
  go_upto_region 28 with fail
  have S := hnode w6 R 18
  obtain ⟨hp0, hhp0⟩ : ∃ x, x = w6.heap.size := ⟨_, rfl⟩
  rw [← hhp0] at S
  go_upto_region 29 with fail
  rw [← hhp0]
  clear hhp0
  generalize w6.alloc (.cells #[.int .i64 18, .int .i64 0, .string ⟨#[]⟩, .slice none 0 0, .int .i64 0, .int .i64 0, .int .i64 0, .int .i64 0, .bool false] 121) = w7 at *
  have htk := take_q b X S (by omega)
  rw [rthn_nil] at htk
  clear S
  go_wp2_with fail
  refine htk.mono ?_
  clear htk
  rintro e1 w8 ⟨rfl, S⟩
  go_wp2_with fail
  go_ret
  exact hfin w8 hp0 18 _ _ rfl S HV.out
 have e3 : ((kd : Int) == 3) = false := by simp; omega
 rw [if_neg k3] at HL
 clear k3
 cases v1 with
 | true =>
  have HV : Hid (r = Tr.brP s T b 17 i (Tr.takeP s T b i)) := HP.out 16 (by rw [HL.out, if_pos rfl])
  clear HL HP HG HLi HN
  go_upto_region 28 with fail
  have S := hnode w6 R 17
  obtain ⟨hp0, hhp0⟩ : ∃ x, x = w6.heap.size := ⟨_, rfl⟩
  rw [← hhp0] at S
  go_upto_region 29 with fail
  rw [← hhp0]
  clear hhp0
  generalize w6.alloc (.cells #[.int .i64 17, .int .i64 0, .string ⟨#[]⟩, .slice none 0 0, .int .i64 0, .int .i64 0, .int .i64 0, .int .i64 0, .bool false] 121) = w7 at *
  have htk := take_q b X S (by omega)
  rw [rthn_nil] at htk
  clear S
  go_wp2_with fail
  refine htk.mono ?_
  clear htk
  rintro e1 w8 ⟨rfl, S⟩
  go_wp2_with fail
  go_ret
  exact hfin w8 hp0 17 _ _ rfl S HV.out
 | false =>
 rw [if_neg (by simp)] at HL
 cases v2 with
 | true =>
  have HV : Hid (r = Tr.brP s T b 17 i (Tr.takeP s T b i)) := HP.out 16 (by rw [HL.out, if_pos rfl])
  clear HL HP HG HLi HN
  go_upto_region 28 with fail
  have S := hnode w6 R 17
  obtain ⟨hp0, hhp0⟩ : ∃ x, x = w6.heap.size := ⟨_, rfl⟩
  rw [← hhp0] at S
  go_upto_region 29 with fail
  rw [← hhp0]
  clear hhp0
  generalize w6.alloc (.cells #[.int .i64 17, .int .i64 0, .string ⟨#[]⟩, .slice none 0 0, .int .i64 0, .int .i64 0, .int .i64 0, .int .i64 0, .bool false] 121) = w7 at *
  have htk := take_q b X S (by omega)
  rw [rthn_nil] at htk
  clear S
  go_wp2_with fail
  refine htk.mono ?_
  clear htk
  rintro e1 w8 ⟨rfl, S⟩
  go_wp2_with fail
  go_ret
  exact hfin w8 hp0 17 _ _ rfl S HV.out
 | false =>
 rw [if_neg (by simp)] at HL
 cases v3 with
 | true =>
  have HV : Hid (r = Tr.brP s T b 19 i (Tr.takeP s T b i)) := HP.out 18 (by rw [HL.out, if_pos rfl])
  clear HL HP HG HLi HN
  go_upto_region 28 with fail
  have S := hnode w6 R 19
  obtain ⟨hp0, hhp0⟩ : ∃ x, x = w6.heap.size := ⟨_, rfl⟩
  rw [← hhp0] at S
  go_upto_region 29 with fail
  rw [← hhp0]
  clear hhp0
  generalize w6.alloc (.cells #[.int .i64 19, .int .i64 0, .string ⟨#[]⟩, .slice none 0 0, .int .i64 0, .int .i64 0, .int .i64 0, .int .i64 0, .bool false] 121) = w7 at *
  have htk := take_q b X S (by omega)
  rw [rthn_nil] at htk
  clear S
  go_wp2_with fail
  refine htk.mono ?_
  clear htk
  rintro e1 w8 ⟨rfl, S⟩
  go_wp2_with fail
  go_ret
  exact hfin w8 hp0 19 _ _ rfl S HV.out
 | false =>
 rw [if_neg (by simp)] at HL
 have HG := fun h => HG.out HL.out h
 have HLi := fun h => HLi.out HL.out h
 have HN := fun h => HN.out HL.out h
 clear HP HL
 cases v4 with
 | true =>
  have HV := Lib.hid (HG rfl)
  clear HG HLi HN
  have S := hnode w6 R 14
  obtain ⟨hp0, hhp0⟩ : ∃ x, x = w6.heap.size := ⟨_, rfl⟩
  rw [← hhp0] at S
  go_upto_region 20 with fail
  rw [← hhp0]
  clear hhp0
  generalize w6.alloc (.cells #[.int .i64 14, .int .i64 0, .string ⟨#[]⟩, .slice none 0 0, .int .i64 0, .int .i64 0, .int .i64 0, .int .i64 0, .bool false] 121) = w7 at *
  have htk := take_q b X S (by omega)
  rw [rthn_nil] at htk
  clear S
  go_wp2_with fail
  refine htk.mono ?_
  clear htk
  rintro e1 w8 ⟨rfl, S⟩
  have htk := E.step X S (by omega)
  clear S
  go_wp2_with fail
  refine htk.mono ?_
  clear htk
  rintro e1 w9 ⟨rfl, S⟩
  have htk := want_q b X S [41] (by omega)
  clear S
  go_wp2_with fail
  refine htk.mono ?_
  clear htk
  rintro e1 w10 ⟨rfl, S⟩
  go_wp2_with fail
  go_ret
  exact hfin w10 hp0 14 _ _ rfl S HV.out
 | false =>
 have HLi := HLi rfl
 have HN := HN rfl
 clear HG
 cases v5 with
 | true =>
  have HV := Lib.hid (HLi rfl)
  clear HLi HN
  have hls : Calls Tryz.prog 204 #[.pointer (some ⟨g, 0, none⟩), .int .i64 13, .string ⟨#[93]⟩] w6 (PtQ w6 (Old w1) g s T Ar c0 n cut (Tr.listP s T b e 13 [93] i)) := rlist_walk b X E R 13 [93]
  rw [← HV.out] at hls
  clear hfin hnode
  go_wp2_with fail
  refine hls.mono ?_
  clear hls
  intro e1 w7 h7
  obtain ⟨q, rfl, hA7, R7, hp7⟩ := h7
  go_wp2_with fail
  go_ret
  exact ⟨q, rfl, hA.trans hA7, R7, hp7⟩
 | false =>
  have HV := Lib.hid (HN rfl)
  clear HLi HN hfin hnode
  have hd : Below w6.heap.size w6 (w6.alloc (.cells #[.int .i64 1, .int .i64 0, .string ⟨#[101, 120, 112, 114, 101, 115, 115, 105, 111, 110]⟩, .slice none 0 0, .int .i64 0, .int .i64 0, .int .i64 0, .int .i64 0, .bool false] 121)) := (Below.refl _ _).alloc (Nat.le_refl _) _
  go_wp2_with fail
  go_ret
  have hgl : ∀ x, Old w1 x → x < w6.heap.size := fun x hx => R.inK x hx
  rw [HV.out]
  refine ⟨w6.heap.size, rfl, hA.trans (Kept.aft (Kept.below hd R.inK) g), ?_, [w6.heap.size], ⟨w6.heap.size, rfl, rfl, fun hk => Nat.lt_irrefl _ (hgl _ hk), Blk.new _ _ _⟩, by simp⟩
  have := R.below hd
  rwa [show (cut || Tr.deepB (Tr.PT.gap Tr.sExpr (Tr.placeP s T b i) false)) = cut from by simp [Tr.deepB]]
end
end Go.Proofs.YtalklmeejdmifaaGreatDoor
