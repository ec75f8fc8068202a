/-
  JOINED of the texts SR ST SX YE
-/
import Derived.Test.YtcjjfeephaddcaaGreatDoorJam
set_option linter.all false
namespace Go.Proofs.YtcjjfeephaddcaaGreatDoor
open Go.RowKit Go.Maps
def LookV (pg ib ab ao f m lf : Nat) (fd : Value) (t : Bs) (v : Value) (b : Bool) (w' : World) : Prop :=
 w'.cell? ⟨pg, 4, none⟩ = some fd ∧ w'.cell? ⟨ib, 0, none⟩ = some (.int .i64 (f : Int)) ∧ w'.cell? ⟨ab, ao + f, none⟩ = some (.map (some m)) ∧ w'.cell? ⟨lf, 1, none⟩ = some (.string ⟨t.toArray⟩) ∧
 (Instr.lookup 228 (.map (some m)) (.string ⟨t.toArray⟩) true).run Tryz.prog w' = .ok (.tuple #[v, .bool b]) w'
theorem use_stored {w w1 : World} {r : Nat} (hd : Below w.heap.size w w1) (hr : r = w.heap.size) {x0 x1 x2 x3 x4 x5 : Value} (hB : Blk w1 r 31 #[x0, x1, x2, x3, x4, x5]) (a b c d e f : Value) :
  Below w.heap.size w ((((((World.setCell w1 ⟨r, 0, none⟩ a).setCell ⟨r, 1, none⟩ b).setCell ⟨r, 2, none⟩ c).setCell ⟨r, 3, none⟩ d).setCell ⟨r, 4, none⟩ e).setCell ⟨r, 5, none⟩ f) ∧
  Blk ((((((World.setCell w1 ⟨r, 0, none⟩ a).setCell ⟨r, 1, none⟩ b).setCell ⟨r, 2, none⟩ c).setCell ⟨r, 3, none⟩ d).setCell ⟨r, 4, none⟩ e).setCell ⟨r, 5, none⟩ f) r 31 #[a, b, c, d, e, f] :=
 ⟨six_below hd (by rw [hr]; exact Nat.le_refl _) a b c d e f, six_blk hB a b c d e f⟩
set_option maxHeartbeats 16000000 in
set_option maxRecDepth 100000 in
theorem sc_variable {w : World} {F : Nat → Prop} {pg : Nat} {A : Option Addr} {c : Nat} {fs : List Fl} {Ad : Option Addr} {cd : Nat} {W : Sc.Wk} {GG : List (List Nat)} (h : WkF w F pg A c fs Ad cd W GG) (hmany : Sc.manyM W ≤ 100000000) {f k ib : Nat} {x : Sc.It} (hx : ItAt W GG f k x ib)
  {e : Sc.Env} {p : Option Addr} {Fe : Nat → Prop} (he : EnvF w Fe e p) {lf kk a : Nat} {t : Bs} (hl : Blk w lf 173 #[.int .i64 ((kk : Nat) : Int), .string ⟨t.toArray⟩, .int .i64 (a : Int)]) (hb : x.base + a ≤ 1000000000) (ht : t.length ≤ 1000000) :
  Calls Tryz.prog 216 #[.pointer (some ⟨pg, 0, none⟩), ptrV ib, .pointer p, .pointer (some ⟨lf, 0, none⟩)] w (UseE (Sc.varM W x e t a) w) := by
 have hd : Below w.heap.size w (w.alloc (.cells zero6 31)) := (Below.refl _ _).alloc (Nat.le_refl _) _
 have hr := Blk.new w 31 zero6
 obtain ⟨r, hr0⟩ : ∃ r, r = w.heap.size := ⟨_, rfl⟩
 rw [← hr0] at hr
 have Hr := Lib.hid hr0
 have hE := he.below hd
 have h1 := h.below hd
 have hl1 := hl.below hd hl.lt
 obtain ⟨hfile, _, _, hfl⟩ := h.file_of hx
 unfold zero6 at hr hd h1 hl1 hE
 have Hfl := Lib.hid hfl
 clear hl he hfl
 unfold ptrV
 go_enter Tryz.func216, Tryz.ntmps216
 go_upto_region 1 with fail
 rw [← hr0]
 clear hr0
 generalize w.alloc (.cells #[.int .i64 0, .int .i64 0, .int .i64 0, .int .i64 0, .int .i64 0, .int .i64 0] 31) = w1 at *
 obtain ⟨tw, hI⟩ := h1.item hx
 obtain ⟨_, _, pb, nv, Ap, cp, ev, mv, mev, av, hB, _⟩ := hI
 have k0 := hB.cell 0
 have k1 := hB.cell 1
 simp [itC] at k0 k1
 rw [hfile] at k0
 have l1 := hl1.cell 1
 have l2 := hl1.cell 2
 simp at l1 l2
 have c1 : IntKind.i64.wrap ((x.base : Int) + (a : Int)) = ((x.base + a : Nat) : Int) := by rw [IntWalk.i64_in _ (by omega)]; omega
 have Hb := Lib.hid hb
 clear hb
 generalize hba : x.base + a = ba at *
 have Hba := Lib.hid hba
 go_quiet (fail)
 have hdn : Below w1.heap.size w1 (w1.drewN nq) := below_drewN (Below.refl _ _) nq
 have hd := below_drewN hd nq
 have hr := hr.drewN nq
 have h1 := h1.below hdn
 have hl1 := hl1.drewN nq
 have hE := EnvF.below hE hdn
 clear hdn hB k0 k1 l1 l2
 generalize w1.drewN nq = w2 at *
 obtain ⟨tw, hI⟩ := h1.item hx
 obtain ⟨_, _, pb, nv, Ap, cp, ev, mv, mev, av, hB, _⟩ := hI
 have k0 := hB.cell 0
 simp [itC] at k0
 rw [hfile] at k0
 have l1 := hl1.cell 1
 simp at l1
 have hfnd := sc_find hE t
 clear hE
 go_wp2_with fail
 refine hfnd.mono ?_
 clear hfnd
 rintro e1 w' ⟨rfl, rfl⟩
 cases hfn : Sc.findM t e with
 | some to_ =>
  have hU : Hid (Sc.varM W x e t a = ⟨f, ba, 6, f, to_, 0⟩) := by
   show _ = _
   unfold Sc.varM
   rw [hfn, ← hfile, ← hba]
  clear hfn
  go_wp2_with fail
  go_still_tail 11, (by kernel_rfl)
  change wpList _ _ _ _ _ w'.drew
  have hr := hr.drew
  have hd := hd.drew
  clear h1 hl1 k0 l1 hB
  generalize w'.drew = w3 at *
  obtain ⟨⟨q0, q1, q2, q3, q4, q5⟩, y0, y1, y2, y3, y4, y5⟩ := six_cells hr
  go_wp2_with fail
  obtain ⟨hb2, hr2⟩ := use_stored hd Hr.out hr (.int .i64 (f : Int)) (.int .i64 (ba : Int)) (.int .i64 6) (.int .i64 (f : Int)) (.int .i64 (to_ : Int)) (.int .i64 0)
  clear q0 q1 q2 q3 q4 q5 y0 y1 y2 y3 y4 y5 hd hr
  generalize ((((((World.setCell w3 ⟨r, 0, none⟩ (.int .i64 (f : Int))).setCell ⟨r, 1, none⟩ (.int .i64 (ba : Int))).setCell ⟨r, 2, none⟩ (.int .i64 6)).setCell ⟨r, 3, none⟩ (.int .i64 (f : Int))).setCell ⟨r, 4, none⟩ (.int .i64 (to_ : Int))).setCell ⟨r, 5, none⟩ (.int .i64 0)) = w4 at *
  obtain ⟨⟨q0, q1, q2, q3, q4, q5⟩, _⟩ := six_cells hr2
  (try simp only [Exit.inBlock, Exit.then])
  refine bodyPost_ret (v := .agg (usC (Sc.varM W x e t a))) (by rw [hU.out]; unfold usC; simp [results, Tryz.results216, go_sem, q0, q1, q2, q3, q4, q5]; try rfl) rfl ?_
  exact ⟨rfl, hb2⟩
 | none =>
  have hV : Hid (Sc.varM W x e t a = Sc.varF W x t a) := by show _ = _; unfold Sc.varM; rw [hfn]
  clear hfn
  obtain ⟨ab, ao, m, G, rfl, hFa, hla, hFmm, hlm, hcm, hG, hGl, hlook⟩ := h1.look Hfl.out ht
  have i0 : (0 : Int) ≤ (f : Int) := by omega
  have i1 : (f : Int) < (W.items.length : Int) := by have := Hfl.out; omega
  go_upto_region 5 with fail
  refine wp_region_G 19 (LookV pg ib ab ao f m lf (.slice (some ⟨ab, ao, none⟩) W.items.length cd) t (foundV (Sc.itemsAt W f) G t) (Sc.foundM (Sc.itemsAt W f) t).isSome) (by kernel_rfl) ?_
  have hS0 : LookV pg ib ab ao f m lf (.slice (some ⟨ab, ao, none⟩) W.items.length cd) t (foundV (Sc.itemsAt W f) G t) (Sc.foundM (Sc.itemsAt W f) t).isSome w'.drew := ⟨h1.p4, k0, hcm, l1, hlook _ rfl⟩
  clear hlook hcm l1 hl1
  refine wpAnyG_tk 0 hS0 ?_
  simp only [Act.put, List.setIfInBounds_toArray]
  refine wpAnyG_tk 1 hS0 ?_
  simp only [Act.put]
  refine wpAnyG_tk 2 hS0 ?_
  simp only [Act.put]
  refine wpAnyG_tk 3 hS0 ?_
  simp only [Act.put]
  refine wpAnyG_tk 4 hS0 ?_
  simp only [Act.put]
  refine wpAnyG_tk 5 hS0 ?_
  simp only [Act.put]
  refine wpAnyG_tk 6 hS0 ?_
  simp only [Act.put]
  refine wpAnyG_tk 7 hS0 ?_
  simp only [Act.put]
  refine wpAnyG_tk 8 hS0 ?_
  simp only [Act.put]
  refine wpAnyG_tk 9 hS0 ?_
  simp only [Act.put]
  refine wpAnyG_tk 10 hS0 ?_
  simp only [Act.put]
  refine wpAnyG_tk 11 hS0 ?_
  simp only [Act.put]
  refine wpAnyG_tk 12 hS0 ?_
  simp only [Act.put]
  refine wpAnyG_tk 13 hS0 ?_
  simp only [Act.put]
  refine wpAnyG_tk 14 hS0 ?_
  simp only [Act.put]
  refine wpAnyG_tk 15 hS0 ?_
  simp only [Act.put]
  refine wpAnyG_tk 16 hS0 ?_
  simp only [Act.put]
  refine wpAnyG_tk 17 hS0 ?_
  simp only [Act.put]
  refine wpAnyG_on 18 fun C hC => ?_
  go_simp
  refine hC.out _ _ (fun _ => hS0) ?_
  clear hC C
  refine wpAnyG_on 19 fun C hC => ?_
  go_simp
  refine hC.out _ _ (fun h => absurd rfl h) ?_
  clear hC C
  refine wpAnyG_done (by kernel_rfl) ?_ _
  have hd := hd.drew
  have hr := hr.drew
  have h1 := h1.below ((Below.refl _ _).drew)
  clear hS0 k0 hB
  generalize w'.drew = w3 at *
  obtain ⟨tw, hI⟩ := h1.item hx
  obtain ⟨_, _, pb, nv, Ap, cp, ev, mv, mev, av, hB, _⟩ := hI
  have k0 := hB.cell 0
  simp [itC] at k0
  rw [hfile] at k0
  cases hk : Sc.foundM (Sc.itemsAt W f) t with
  | none =>
   have hU : Hid (Sc.varM W x e t a = Sc.nothingM f ba 6 4) := by
    show _ = _
    rw [hV.out]
    unfold Sc.varF
    rw [hfile, hk, ← hba]
   clear hV hk hG hGl
   have hno := sc_nothing f ba 6 4 w3
   go_wp2_with fail
   refine hno.mono ?_
   clear hno
   rintro e2 w4 ⟨rfl, hd4⟩
   have hd4' := hd.trans (hd4.mono hd.size)
   have hr4 := hr.below hd4 hr.lt
   have HN : Hid (usC (Sc.nothingM f ba 6 4) = #[.int .i64 (f : Int), .int .i64 (ba : Int), .int .i64 6, .int .i64 (-1), .int .i64 (-1), .int .i64 4]) := rfl
   rw [HN.out]
   clear hd hr hd4 h1 hB k0
   obtain ⟨⟨q0, q1, q2, q3, q4, q5⟩, y0, y1, y2, y3, y4, y5⟩ := six_cells hr4
   go_wp2_with fail
   obtain ⟨hb2, hr2⟩ := use_stored hd4' Hr.out hr4 (.int .i64 (f : Int)) (.int .i64 (ba : Int)) (.int .i64 6) (.int .i64 (-1)) (.int .i64 (-1)) (.int .i64 4)
   clear q0 q1 q2 q3 q4 q5 y0 y1 y2 y3 y4 y5 hd4' hr4
   generalize ((((((World.setCell w4 ⟨r, 0, none⟩ (.int .i64 (f : Int))).setCell ⟨r, 1, none⟩ (.int .i64 (ba : Int))).setCell ⟨r, 2, none⟩ (.int .i64 6)).setCell ⟨r, 3, none⟩ (.int .i64 (-1))).setCell ⟨r, 4, none⟩ (.int .i64 (-1))).setCell ⟨r, 5, none⟩ (.int .i64 4)) = w5 at *
   obtain ⟨⟨q0, q1, q2, q3, q4, q5⟩, _⟩ := six_cells hr2
   (try simp only [Exit.inBlock, Exit.then])
   refine bodyPost_ret (v := .agg (usC (Sc.varM W x e t a))) (by rw [hU.out, HN.out]; simp [results, Tryz.results216, go_sem, q0, q1, q2, q3, q4, q5]; try rfl) rfl ?_
   exact ⟨rfl, hb2⟩
  | some k2 =>
   obtain ⟨y, g2, v, hy, hyn, hIt, hfv⟩ := found_item h1 hG hk
   have hV : Hid (Sc.varM W x e t a = if y.isDef then ⟨f, ba, 6, f, (v.at_ : Nat), 0⟩ else ⟨f, ba, 6, (Sc.standsM W f k2 y).1, (Sc.standsM W f k2 y).2.1, 0⟩) := by
    show _ = _
    rw [hV.out]
    unfold Sc.varF
    rw [hfile, hk, ← hba]
    dsimp only
    rw [hy]
    dsimp only
    rw [hyn]
    rfl
   rw [hfv]
   obtain ⟨tw2, hI2⟩ := h1.item hIt
   obtain ⟨pb2, hp2, hp0⟩ := hI2.kind
   have hdf := sc_def hp2 hp0
   rw [kind_beq] at hdf
   obtain ⟨_, _, pb3, nv2, Ap2, cp2, ev2, mv2, mev2, av2, hB2, _, hname2, _⟩ := hI2
   rw [hyn] at hname2
   obtain ⟨gv, rfl, _, hBv⟩ := hname2
   clear hk hfv hG hGl hp2 hp0 hyn
   go_wp2_with fail
   refine hdf.mono ?_
   clear hdf
   rintro e2 w4 ⟨rfl, hd4⟩
   have h4 := h1.below hd4
   have hr4 := hr.below hd4 hr.lt
   have hd4' := hd.trans (hd4.mono hd.size)
   have k0 := (hB.below hd4 hB.lt).cell 0
   have z5 := (hB2.below hd4 hB2.lt).cell 5
   have v1 := (hBv.below hd4 hBv.lt).cell 1
   simp [itC] at k0 z5 v1
   rw [hfile] at k0
   clear hd hr h1 hB hB2 hBv hd4
   cases hdd : y.isDef with
   | true =>
    have hU : Hid (Sc.varM W x e t a = ⟨f, ba, 6, f, (v.at_ : Nat), 0⟩) := by show _ = _; rw [hV.out, hdd, if_pos rfl]
    clear hV hdd hy h4
    go_wp2_with fail
    go_still_tail 16, (by kernel_rfl)
    change wpList _ _ _ _ _ w4.drew
    have hr := hr4.drew
    have hd := hd4'.drew
    clear k0 z5 v1 hr4 hd4'
    generalize w4.drew = w3 at *
    obtain ⟨⟨q0, q1, q2, q3, q4, q5⟩, y0, y1, y2, y3, y4, y5⟩ := six_cells hr
    generalize v.at_ = to_ at *
    go_wp2_with fail
    obtain ⟨hb2, hr2⟩ := use_stored hd Hr.out hr (.int .i64 (f : Int)) (.int .i64 (ba : Int)) (.int .i64 6) (.int .i64 (f : Int)) (.int .i64 (to_ : Int)) (.int .i64 0)
    clear q0 q1 q2 q3 q4 q5 y0 y1 y2 y3 y4 y5 hd hr
    generalize ((((((World.setCell w3 ⟨r, 0, none⟩ (.int .i64 (f : Int))).setCell ⟨r, 1, none⟩ (.int .i64 (ba : Int))).setCell ⟨r, 2, none⟩ (.int .i64 6)).setCell ⟨r, 3, none⟩ (.int .i64 (f : Int))).setCell ⟨r, 4, none⟩ (.int .i64 (to_ : Int))).setCell ⟨r, 5, none⟩ (.int .i64 0)) = w9 at *
    obtain ⟨⟨q0, q1, q2, q3, q4, q5⟩, _⟩ := six_cells hr2
    (try simp only [Exit.inBlock, Exit.then])
    refine bodyPost_ret (v := .agg (usC (Sc.varM W x e t a))) (by rw [hU.out]; unfold usC; simp [results, Tryz.results216, go_sem, q0, q1, q2, q3, q4, q5]; try rfl) rfl ?_
    exact ⟨rfl, hb2⟩
   | false =>
    have hU : Hid (Sc.varM W x e t a = ⟨f, ba, 6, (Sc.standsM W f k2 y).1, (Sc.standsM W f k2 y).2.1, 0⟩) := by show _ = _; rw [hV.out, hdd, if_neg (by simp)]
    have htg := sc_target h4 hmany hIt
    clear hV hdd hy h4 z5 v1
    generalize Sc.standsM W f k2 y = R at *
    go_wp2_with fail
    refine htg.mono ?_
    clear htg
    rintro e2 w5 ⟨rfl, hd5⟩
    have hr := hr4.below hd5 hr4.lt
    have hd := hd4'.trans (hd5.mono hd4'.size)
    have k0 := (hd5.cell (p := ⟨ib, 0, none⟩) (World.block_lt_of_cell? w4 _ k0)).trans k0
    clear hr4 hd4' hd5
    obtain ⟨⟨q0, q1, q2, q3, q4, q5⟩, y0, y1, y2, y3, y4, y5⟩ := six_cells hr
    go_wp2_with fail
    obtain ⟨hb2, hr2⟩ := use_stored hd Hr.out hr (.int .i64 (f : Int)) (.int .i64 (ba : Int)) (.int .i64 6) (.int .i64 R.1) (.int .i64 R.2.1) (.int .i64 0)
    clear q0 q1 q2 q3 q4 q5 y0 y1 y2 y3 y4 y5 hd hr
    generalize ((((((World.setCell w5 ⟨r, 0, none⟩ (.int .i64 (f : Int))).setCell ⟨r, 1, none⟩ (.int .i64 (ba : Int))).setCell ⟨r, 2, none⟩ (.int .i64 6)).setCell ⟨r, 3, none⟩ (.int .i64 R.1)).setCell ⟨r, 4, none⟩ (.int .i64 R.2.1)).setCell ⟨r, 5, none⟩ (.int .i64 0)) = w9 at *
    obtain ⟨⟨q0, q1, q2, q3, q4, q5⟩, _⟩ := six_cells hr2
    (try simp only [Exit.inBlock, Exit.then])
    refine bodyPost_ret (v := .agg (usC (Sc.varM W x e t a))) (by rw [hU.out]; unfold usC; simp [results, Tryz.results216, go_sem, q0, q1, q2, q3, q4, q5]; try rfl) rfl ?_
    exact ⟨rfl, hb2⟩
theorem Sc.var_fa (W : Sc.Wk) (x : Sc.It) (e : Sc.Env) (t : Bs) (a : Nat) : (Sc.varM W x e t a).file = x.file ∧ (Sc.varM W x e t a).at_ = x.base + a := by
 unfold Sc.varM Sc.varF Sc.nothingM
 repeat' split
 all_goals exact ⟨rfl, rfl⟩
def LetS (ib lf : Nat) (f b a : Nat) (w' : World) : Prop := w'.cell? ⟨ib, 0, none⟩ = some (.int .i64 (f : Int)) ∧ w'.cell? ⟨ib, 1, none⟩ = some (.int .i64 (b : Int)) ∧ w'.cell? ⟨lf, 2, none⟩ = some (.int .i64 (a : Int))
theorem KeepC.cell {T : List TypeId} {w w' : World} (hk : KeepC T w w') {g i : Nat} {t : TypeId} {cs : Array Value} {v : Value} (hB : Blk w g t cs) (ht : t ∉ T) (hv : cs[i]? = some v) : w'.cell? ⟨g, i, none⟩ = some v := ((hB.keepC hk ht).cell i).trans hv
set_option maxHeartbeats 16000000 in
set_option maxRecDepth 100000 in
theorem sc_visit {w0 w : World} {F : Nat → Prop} {pg mb : Nat} {A : Option Addr} {c : Nat} {fs : List Fl} {Ad : Option Addr} {cd : Nat} {W : Sc.Wk} {GG : List (List Nat)} {ts is : Value} {us : List Sc.Us}
  (h : Ph w0 F pg mb A c fs Ad cd W GG) (hP : PgS w0 w pg mb (.slice A fs.length c) ts is (.slice Ad W.items.length cd) us) {f k ib : Nat} {x : Sc.It} (hx : ItAt W GG f k x ib)
  {e : Sc.Env} {ep : Option Addr} {Fe : Nat → Prop} (he : EnvF w Fe e ep) {p : Tr.PT} {pv : Value} (hp : PtF w F p pv) {vb : Nat} {up : Value} (hv : Blk w vb 333 #[pv, .pointer ep, up])
  (hsh : Sc.shP p) (hlo : lowP x.base p) (hl : us.length + 1000000 ≤ 1000000000) (hl2 : (Sc.visitM W x e p).length ≤ 1000000) (hnm : Sc.kindOf p = 9 → (Sc.wordsOf x.base (Sc.atP (Sc.senseP p) 1)).length ≤ 1000000) :
  Calls Tryz.prog 171 #[.pointer (some ⟨pg, 0, none⟩), ptrV ib, .pointer (some ⟨vb, 0, none⟩)] w (AddE w0 w pg mb (.slice A fs.length c) ts is (.slice Ad W.items.length cd) (us ++ Sc.visitM W x e p)) := by
 have hW := h.at_ hP
 have v0 := hv.cell 0
 have v1 := hv.cell 1
 simp at v0 v1
 have Hv := Lib.hid hv
 clear hv
 unfold ptrV
 cases p with
 | leaf k t a =>
  obtain ⟨g, rfl, _⟩ := hp
  have has := fun w => as_leaf_branch ⟨g, 0, none⟩ w
  go_enter Tryz.func171, Tryz.ntmps171
  go_wp2_with fail
  go_end0
  exact ⟨rfl, by simpa [Sc.visitM, Sc.kindOf] using hP, KeepC.refl _ _⟩
 | gap t a d =>
  obtain ⟨g, rfl, _⟩ := hp
  have has := fun w => as_gap_branch ⟨g, 0, none⟩ w
  go_enter Tryz.func171, Tryz.ntmps171
  go_wp2_with fail
  go_end0
  exact ⟨rfl, by simpa [Sc.visitM, Sc.kindOf] using hP, KeepC.refl _ _⟩
 | branch k a l =>
  have hp0 := hp
  obtain ⟨g, rfl, hFg, Al, cl, vl, hgB, _⟩ := hp0
  have has := fun w => as_branch_branch ⟨g, 0, none⟩ w
  have g0 := hgB.cell 0
  simp at g0
  obtain ⟨tw, hI⟩ := hW.item hx
  obtain ⟨hfile, _, _, hfl⟩ := hW.file_of hx
  obtain ⟨_, _, pb, nv, Ap, cp, ev, mv, mev, av, hB, _⟩ := hI
  have k0 := hB.cell 0
  have k1 := hB.cell 1
  simp [itC] at k0 k1
  have Hfew : Hid (x.file ≤ 1000000000) := by have := hW.few; have := hW.fl; show _ ≤ _; omega
  have HW := Lib.hid hW
  have HB := Lib.hid hB
  unfold Sc.shP at hsh
  unfold lowP at hlo
  obtain ⟨⟨h7, h9, h18, _, _⟩, hsl⟩ := hsh
  obtain ⟨hll, hlow⟩ := hlo
  have HP := Lib.hid hP
  have Hl := Lib.hid hl
  have Hl2 := Lib.hid hl2
  have Hfile := Lib.hid hfile
  clear hW hB hP hl hl2 hfile hfl
  by_cases hk7 : k = 7
  ·subst hk7
   obtain ⟨⟨y0, y1, r, hs, _, _, hb1⟩, _⟩ := h7 rfl
   have hlet := let_walk hp hll hs
   have hy : Sc.atP (Sc.senseP (.branch 7 a l)) 1 = y1 := by show Sc.atP (Sc.senseL l) 1 = y1; rw [hs]; rfl
   have HV : Hid (Sc.visitM W x e (.branch 7 a l) = (Sc.wordOf x.base y1).toList.map (fun w => Sc.itselfM x.file w.at_ 2 false)) := by
    show _ = _
    have e1 : Sc.visitM W x e (.branch 7 a l) = (Sc.letM x.base (.branch 7 a l)).toList.map (fun w => Sc.itselfM x.file w.at_ 2 false) := rfl
    rw [e1]
    unfold Sc.letM
    rw [hy]
   clear hy
   have hy1 : lowP x.base y1 := lows_mem hlow y1 (sense_mem (by rw [hs]; simp))
   clear h7 h9 h18 hs hp hgB hnm
   go_enter Tryz.func171, Tryz.ntmps171
   go_upto_region 4 with fail
   clear v0
   generalize Sc.visitM W x e (.branch 7 a l) = V at *
   go_wp2_with fail
   refine hlet.mono ?_
   clear hlet
   rintro e1 w1 ⟨hd1, hm⟩
   have hP1 := HP.out.below hd1
   have hB1 := HB.out.below hd1 HB.out.lt
   have hK1 : KeepC [86, 31] w w1 := KeepC.below hd1
   clear g0 k0 k1 v1
   cases y1 with
   | branch k2 a2 l2 => cases hb1
   | gap t2 a2 d2 =>
    obtain rfl := hm
    have HV : Hid (V = []) := HV
    clear hB1
    go_wp2_with fail
    go_end0
    exact ⟨rfl, by rw [HV.out, List.append_nil]; exact hP1, hK1⟩
   | leaf k2 t2 a2 =>
    obtain ⟨g1, rfl, hF1, hL1⟩ := hm
    have HV : Hid (V = [Sc.itselfM x.file (x.base + a2) 2 false]) := HV
    unfold lowP at hy1
    have c1 : IntKind.i64.wrap ((x.base : Int) + (a2 : Int)) = ((x.base + a2 : Nat) : Int) := by rw [IntWalk.i64_in _ (by omega)]; omega
    have hat := Lib.hid hy1.1
    clear hy1
    generalize x.base + a2 = at_ at *
    go_upto_region 6 with fail
    refine wp_region_G 100 (LetS ib g1 x.file x.base a2) (by kernel_rfl) ?_
    have hP2 := hP1.below ((Below.refl _ _).drew)
    have hB2 := hB1.drew
    have hL2 := hL1.drew
    have hK2 := hK1.drew
    clear hP1 hB1 hL1 hK1 hd1
    generalize w1.drew = w2 at *
    have hS0 : LetS ib g1 x.file x.base a2 w2 := ⟨by have := hB2.cell 0; simpa [itC] using this, by have := hB2.cell 1; simpa [itC] using this, by have := hL2.cell 2; simpa using this⟩
    refine wpAnyG_tk 0 hS0 ?_
    simp only [Act.put, List.setIfInBounds_toArray]
    refine wpAnyG_tk 1 hS0 ?_
    simp only [Act.put]
    refine wpAnyG_tk 2 hS0 ?_
    simp only [Act.put]
    refine wpAnyG_tk 3 hS0 ?_
    simp only [Act.put]
    refine wpAnyG_tk 4 hS0 ?_
    simp only [Act.put]
    refine wpAnyG_tk 5 hS0 ?_
    simp only [Act.put]
    refine wpAnyG_tk 6 hS0 ?_
    simp only [Act.put]
    refine wpAnyG_tk 7 hS0 ?_
    simp only [Act.put]
    refine wpAnyG_tk 8 hS0 ?_
    simp only [Act.put]
    refine wpAnyG_tk 9 hS0 ?_
    simp only [Act.put]
    refine wpAnyG_tk 10 hS0 ?_
    simp only [Act.put]
    refine wpAnyG_tk 11 hS0 ?_
    simp only [Act.put]
    refine wpAnyG_tk 12 hS0 ?_
    simp only [Act.put]
    refine wpAnyG_tk 13 hS0 ?_
    simp only [Act.put]
    clear hS0
    have hit := sc_itself x.file at_ 2 false w2
    refine wpAnyG_on 14 fun C hC => ?_
    go_simp
    refine hit.mono ?_
    clear hit
    rintro e3 w3 ⟨rfl, hd3⟩
    have hP3 := hP2.below hd3
    have hB3 := hB2.below hd3 hB2.lt
    have hL3 := hL2.below hd3 hL2.lt
    have hK3 := hK2.trans (KeepC.below hd3)
    clear hP2 hB2 hL2 hK2 hd3
    refine hC.out _ _ (fun _ => ⟨by have := hB3.cell 0; simpa [itC] using this, by have := hB3.cell 1; simpa [itC] using this, by have := hL3.cell 2; simpa using this⟩) ?_
    clear hC C
    have had := sc_add hP3 (u := Sc.itselfM x.file at_ 2 false) Hfew.out hat.out (by have := Hl.out; omega)
    refine wpAnyG_on 15 fun C hC => ?_
    go_simp
    refine had.mono ?_
    clear had
    rintro e4 w4 ⟨rfl, hP4, hK4⟩
    refine hC.out _ _ (fun _ => ⟨by have := hK4.cell hB3 (by decide) (i := 0) rfl; simpa [itC] using this, by have := hK4.cell hB3 (by decide) (i := 1) rfl; simpa [itC] using this, by have := hK4.cell hL3 (by decide) (i := 2) rfl; simpa using this⟩) ?_
    clear hC C hB3 hL3 hP3
    refine wpAnyG_done (by kernel_rfl) ?_ _
    go_wp2_with fail
    go_end0
    exact ⟨rfl, by rw [HV.out]; exact hP4, hK3.trans hK4⟩
  have n7 : ((k : Int) == 7) = false := by simp; omega
  by_cases hk9 : k = 9
  ·subst hk9
   obtain ⟨y0, y1, r, hs, _, hb1, hk1⟩ := h9 rfl
   have hy : Sc.atP (Sc.senseP (.branch 9 a l)) 1 = y1 := by show Sc.atP (Sc.senseL l) 1 = y1; rw [hs]; rfl
   have hd2 : Below w.heap.size w w.drew := (Below.refl _ _).drew
   have hpar := tparams_walk (PtF.below hp hd2) hll hs hb1
   have HV : Hid (Sc.visitM W x e (.branch 9 a l) = Sc.paramsM x.file [] (Sc.wordsOf x.base y1)) := by
    show _ = _
    have e1 : Sc.visitM W x e (.branch 9 a l) = Sc.paramsM x.file [] (Sc.wordsOf x.base (Sc.atP (Sc.senseP (.branch 9 a l)) 1)) := rfl
    rw [e1, hy]
   have hnm := hnm rfl
   rw [hy] at hnm
   have hy1 : lowP x.base y1 := lows_mem hlow y1 (sense_mem (by rw [hs]; simp))
   have Hnm := Lib.hid hnm
   clear h7 h9 h18 hs hp hgB hnm hy n7 hk7
   cases y1 with
   | leaf k2 t2 a2 => cases hb1
   | gap t2 a2 d2 => cases hb1
   | branch k2 a2 m =>
   go_enter Tryz.func171, Tryz.ntmps171
   go_upto_region 8 with fail
   generalize Sc.visitM W x e (.branch 9 a l) = V at *
   refine wp_region_G 100 (fun w' : World => w'.cell? ⟨ib, 0, none⟩ = some (.int .i64 (x.file : Int))) (by kernel_rfl) ?_
   have hP2 := HP.out.below hd2
   have hB2 := HB.out.drew
   have hK2 : KeepC [86, 31] w w.drew := KeepC.below hd2
   have hS0 : (fun w' : World => w'.cell? ⟨ib, 0, none⟩ = some (.int .i64 (x.file : Int))) w.drew := k0
   clear v0 v1 g0 k1 hd2
   generalize w.drew = w2 at *
   refine wpAnyG_tk 0 hS0 ?_
   simp only [Act.put, List.setIfInBounds_toArray]
   refine wpAnyG_tk 1 hS0 ?_
   simp only [Act.put]
   refine wpAnyG_tk 2 hS0 ?_
   simp only [Act.put]
   refine wpAnyG_tk 3 hS0 ?_
   simp only [Act.put]
   refine wpAnyG_tk 4 hS0 ?_
   simp only [Act.put]
   refine wpAnyG_tk 5 hS0 ?_
   simp only [Act.put]
   refine wpAnyG_tk 6 hS0 ?_
   simp only [Act.put]
   clear hS0 k0
   refine wpAnyG_on 7 fun C hC => ?_
   go_simp
   refine hpar.mono ?_
   clear hpar
   rintro e3 w3 ⟨g2, rfl, hp2, hd3⟩
   have hP3 := hP2.below hd3
   have hB3 := hB2.below hd3 hB2.lt
   have hK3 := hK2.trans (KeepC.below hd3)
   clear hP2 hB2 hK2 hd3
   refine hC.out _ _ (fun _ => by have := hB3.cell 0; simpa [itC] using this) ?_
   clear hC C
   unfold lowP at hy1
   have hwo := sc_wordsOf hp2 hy1.1 (ib := ib) (b := x.base) (by have := hB3.cell 1; simpa [itC] using this) (low_names hy1.2)
   generalize hws : Sc.wordsOf x.base (.branch k2 a2 m) = ws at *
   have hwat : Hid (∀ y, some y ∈ ws → y.at_ ≤ 1000000000) := fun y hy => by
    rw [← hws] at hy
    unfold Sc.wordsOf at hy
    obtain ⟨z, hz, e1⟩ := List.mem_map.1 hy
    cases z with
    | none => cases e1
    | some z =>
     injection e1 with e1
     subst e1
     exact low_names hy1.2 z hz
   clear hws hp2
   refine wpAnyG_on 8 fun C hC => ?_
   go_simp
   refine hwo.mono ?_
   clear hwo
   rintro e4 w4 ⟨A4, c4, vs4, rfl, hown4, hws4, hd4⟩
   have hP4 := hP3.below hd4
   have hB4 := hB3.below hd4 hB3.lt
   have hK4 := hK3.trans (KeepC.below hd4)
   refine hC.out _ _ (fun _ => by have := hB4.cell 0; simpa [itC] using this) ?_
   obtain ⟨hcap, hrow, hty⟩ := own_cap_row hown4 (fun y => w3.heap.size ≤ y) (fun y hy => hy)
   have hpa := sc_params hP4 ⟨vs4, hrow, hws4⟩ hty Hfew.out hwat.out (by have := Hl.out; have := Hnm.out; omega) hcap
   clear hC C hP3 hB3 hK3 hd4 hown4 hws4 hrow hty hcap
   refine wpAnyG_on 9 fun C hC => ?_
   go_simp
   refine hpa.mono ?_
   clear hpa
   rintro e5 w5 ⟨rfl, hP5, hK5⟩
   refine hC.out _ _ (fun _ => by have := hK5.cell hB4 (by decide) (i := 0) rfl; simpa [itC] using this) ?_
   clear hC C hB4 hP4
   refine wpAnyG_done (by kernel_rfl) ?_ _
   go_wp2_with fail
   go_end0
   exact ⟨rfl, by rw [HV.out]; exact hP5, hK4.trans hK5⟩
  have n9 : ((k : Int) == 9) = false := by simp; omega
  by_cases hk18 : k = 18
  ·subst hk18
   obtain ⟨y0, hs, hy0⟩ := h18 rfl
   have hy : Sc.atP (Sc.senseP (.branch 18 a l)) 0 = y0 := by show Sc.atP (Sc.senseL l) 0 = y0; rw [hs]; rfl
   have hd2 : Below w.heap.size w w.drew := (Below.refl _ _).drew
   have htok := token_walk (PtF.below hp hd2) hll hs hy0
   have HV : Hid (Sc.visitM W x e (.branch 18 a l) = [Sc.varM W x e (Sc.leafOf y0).1 (Sc.leafOf y0).2]) := by
    show _ = _
    have e1 : Sc.visitM W x e (.branch 18 a l) = [Sc.varM W x e (Sc.leafOf (Sc.atP (Sc.senseP (.branch 18 a l)) 0)).1 (Sc.leafOf (Sc.atP (Sc.senseP (.branch 18 a l)) 0)).2] := rfl
    rw [e1, hy]
   have hy1 : lowP x.base y0 := lows_mem hlow y0 (sense_mem (by rw [hs]; simp))
   clear h7 h9 h18 hs hp hgB hnm hy n7 hk7 n9 hk9
   cases y0 with
   | branch k2 a2 m => cases hy0
   | gap t2 a2 d2 => cases hy0
   | leaf k2 t2 a2 =>
   have HV : Hid (Sc.visitM W x e (.branch 18 a l) = [Sc.varM W x e t2 a2]) := HV
   have htok : Calls Tryz.prog 217 #[.pointer (some ⟨g, 0, none⟩)] w.drew (TokenE t2 a2 w.drew F) := htok
   unfold lowP at hy1
   go_enter Tryz.func171, Tryz.ntmps171
   go_upto_region 10 with fail
   generalize Sc.visitM W x e (.branch 18 a l) = V at *
   refine wp_region_G 100 (fun w' : World => w'.cell? ⟨vb, 1, none⟩ = some (.pointer ep)) (by kernel_rfl) ?_
   have hP2 := HP.out.below hd2
   have hE2 := he.below hd2
   have hB2 := Hv.out.drew
   have hK2 : KeepC [86, 31] w w.drew := KeepC.below hd2
   have hS0 : (fun w' : World => w'.cell? ⟨vb, 1, none⟩ = some (.pointer ep)) w.drew := v1
   clear v0 g0 k0 k1 hd2
   generalize w.drew = w2 at *
   refine wpAnyG_tk 0 hS0 ?_
   simp only [Act.put, List.setIfInBounds_toArray]
   refine wpAnyG_tk 1 hS0 ?_
   simp only [Act.put]
   refine wpAnyG_tk 2 hS0 ?_
   simp only [Act.put]
   refine wpAnyG_tk 3 hS0 ?_
   simp only [Act.put]
   refine wpAnyG_tk 4 hS0 ?_
   simp only [Act.put]
   refine wpAnyG_tk 5 hS0 ?_
   simp only [Act.put]
   refine wpAnyG_tk 6 hS0 ?_
   simp only [Act.put]
   refine wpAnyG_tk 7 hS0 ?_
   simp only [Act.put]
   clear hS0 v1
   refine wpAnyG_on 8 fun C hC => ?_
   go_simp
   refine htok.mono ?_
   clear htok
   rintro e3 w3 ⟨g2, kk, rfl, hF2, hL3, hd3⟩
   have hP3 := hP2.below hd3
   have hB3 := hB2.below hd3 hB2.lt
   have hE3 := hE2.below hd3
   have hK3 := hK2.trans (KeepC.below hd3)
   refine hC.out _ _ (fun _ => by have := hB3.cell 1; simpa using this) ?_
   clear hC C hP2 hB2 hK2 hd3 hE2
   have hva := sc_variable (h.at_ hP3) h.many hx hE3 hL3 hy1.1 hy1.2
   have hfa := Lib.hid (Sc.var_fa W x e t2 a2)
   clear hE3 hL3
   refine wpAnyG_on 9 fun C hC => ?_
   go_simp
   refine hva.mono ?_
   clear hva
   rintro e4 w4 ⟨rfl, hd4⟩
   have hP4 := hP3.below hd4
   have hB4 := hB3.below hd4 hB3.lt
   have hK4 := hK3.trans (KeepC.below hd4)
   refine hC.out _ _ (fun _ => by have := hB4.cell 1; simpa using this) ?_
   clear hC C hP3 hB3 hK3 hd4
   generalize Sc.varM W x e t2 a2 = u at *
   have had := sc_add hP4 (u := u) (by rw [hfa.out.1]; exact Hfew.out) (by rw [hfa.out.2]; exact hy1.1) (by have := Hl.out; omega)
   refine wpAnyG_on 10 fun C hC => ?_
   go_simp
   refine had.mono ?_
   clear had
   rintro e5 w5 ⟨rfl, hP5, hK5⟩
   refine hC.out _ _ (fun _ => by have := hK5.cell hB4 (by decide) (i := 1) rfl; simpa using this) ?_
   clear hC C hB4 hP4
   refine wpAnyG_done (by kernel_rfl) ?_ _
   go_wp2_with fail
   go_end0
   exact ⟨rfl, by rw [HV.out]; exact hP5, hK4.trans hK5⟩
  have n18 : ((k : Int) == 18) = false := by simp; omega
  have HV : Hid (Sc.visitM W x e (.branch k a l) = []) := by
   show _ = _
   unfold Sc.visitM
   have e1 : Sc.kindOf (.branch k a l) = k := rfl
   rw [e1, if_neg hk7, if_neg hk9, if_neg hk18]
  clear h7 h9 h18 hgB hnm hk7 hk9 hk18 k0 k1 v1
  go_enter Tryz.func171, Tryz.ntmps171
  go_wp2_with fail
  go_end0
  exact ⟨rfl, by rw [HV.out, List.append_nil]; exact HP.out, KeepC.refl _ _⟩
section
variable {w w' : World} {F : Nat → Prop}
theorem RowF.same (hk : ∀ b, F b → b < w'.heap.size ∧ w'.heap[b]? = w.heap[b]?) {A : Option Addr} {vs : List Value} (h : RowF w F A vs) : RowF w' F A vs := fun hn => by
 obtain ⟨b, o, e, hF, hl, hc⟩ := h hn
 exact ⟨b, o, e, hF, (hk b hF).1, fun j u hu => (World.cell?_of_block (a := ⟨b, o + j, none⟩) (hk b hF).2).trans (hc j u hu)⟩
mutual
theorem PtF.same (hk : ∀ b, F b → b < w'.heap.size ∧ w'.heap[b]? = w.heap[b]?) : ∀ (p : Tr.PT) (v : Value), PtF w F p v → PtF w' F p v
 | .leaf k t a, v, h => by
  obtain ⟨g, e, hF, hB⟩ := h
  exact ⟨g, e, hF, (hk g hF).2.trans hB⟩
 | .gap t a d, v, h => by
  obtain ⟨g, e, hF, hB⟩ := h
  exact ⟨g, e, hF, (hk g hF).2.trans hB⟩
 | .branch k a l, v, h => by
  obtain ⟨g, e, hF, A, c, vs, hB, hc, hr, hp⟩ := h
  exact ⟨g, e, hF, A, c, vs, (hk g hF).2.trans hB, hc, hr.same hk, PtsF.same hk l vs hp⟩
theorem PtsF.same (hk : ∀ b, F b → b < w'.heap.size ∧ w'.heap[b]? = w.heap[b]?) : ∀ (l : List Tr.PT) (vs : List Value), PtsF w F l vs → PtsF w' F l vs
 | [], vs, h => h
 | p :: l, vs, h => by
  obtain ⟨v, vs', e, hp, hl⟩ := h
  exact ⟨v, vs', e, PtF.same hk p v hp, PtsF.same hk l vs' hl⟩
end
end
def esOf (k : Nat) (l : List Tr.PT) : List Tr.PT := if k = 11 then Sc.exprsL l ++ Sc.exprsL (Sc.kidsOf (Sc.atP l 1)) else Sc.exprsL l
section
variable {σ : Type} {Fn : Nat} {caps : Array Value} {w0 : World} {F : Nat → Prop} {T : List TypeId} {x : Sc.It} {ib : Nat} {Q : Tr.PT → Prop} {G : σ → Prop} {st : Sc.Env → Tr.PT → σ → σ} {I : σ → World → Prop}
theorem VisE.same (V : VisE Fn caps w0 F T x ib Q G st I) {s s' : σ} {w w' : World} (h : I s w) (h' : I s' w') : ∀ b, F b → b < w'.heap.size ∧ w'.heap[b]? = w.heap[b]? := fun b hb => by
 have hl := V.fok b hb
 obtain ⟨k1, k2⟩ := V.keep s w h
 obtain ⟨k3, k4⟩ := V.keep s' w' h'
 exact ⟨by omega, (k4 b hb hl).trans (k2 b hb hl).symm⟩
theorem walk_es {e : Sc.Env} {k a : Nat} {l : List Tr.PT} {s : σ} (hh : Sc.headOk k l) (hs : Sc.shsP l) (hk : k ≠ 12) :
  walkS x st e (.branch k a l) s = goS x st (Sc.env1 x e (.branch k a l)) (Sc.env2 x e (.branch k a l)) (esOf k l) (st e (.branch k a l) s) := by
 obtain ⟨_, _, _, h11, hn⟩ := hh
 unfold esOf
 by_cases h : k = 11
 ·subst h
  obtain ⟨c, a', rfl, hc, hb, hk2⟩ := h11 rfl
  cases a' with
  | leaf _ _ _ => cases hb
  | gap _ _ _ => cases hb
  | branch k2 a2 m =>
   have hk2 : k2 = 12 := hk2
   subst hk2
   have hm : ∀ p ∈ m, Sc.kindOf p ≠ 12 := by
    unfold Sc.shsP at hs
    have h2 := hs.2
    unfold Sc.shsP Sc.shP at h2
    exact h2.1.1.2.2.2.2 (by omega)
   rw [if_pos rfl, walk_call x st e a a2 c m s hc hm]
   have e1 : Sc.exprsL [c, .branch 12 a2 m] = [c] := by
    unfold Sc.exprsL
    rw [List.filter_cons_of_pos hc, List.filter_cons_of_neg (by simp [Sc.isExpr]), List.filter_nil]
   rw [e1]
   rfl
 ·rw [if_neg h, walk_br x st e k a l s hk (hn h)]
theorem es_mem {k : Nat} {l : List Tr.PT} {p : Tr.PT} (hh : Sc.headOk k l) (h : p ∈ esOf k l) : Sc.isExpr p = true ∧ (p ∈ l ∨ ∃ k2 a2 m, k = 11 ∧ .branch k2 a2 m ∈ l ∧ p ∈ m) := by
 unfold esOf at h
 by_cases hk : k = 11
 ·rw [if_pos hk] at h
  obtain ⟨c, a', rfl, hc, hb, hk2⟩ := hh.2.2.2.1 hk
  rcases List.mem_append.1 h with h | h
  ·have := List.mem_filter.1 h
   exact ⟨this.2, .inl this.1⟩
  ·have := List.mem_filter.1 h
   refine ⟨this.2, .inr ?_⟩
   have h1 := this.1
   cases a' with
   | leaf _ _ _ => cases hb
   | gap _ _ _ => cases hb
   | branch k2 a2 m => exact ⟨k2, a2, m, hk, by simp, h1⟩
 ·rw [if_neg hk] at h
  have := List.mem_filter.1 h
  exact ⟨this.2, .inl this.1⟩
def WalkE (Fn : Nat) (caps : Array Value) (F : Nat → Prop) (T : List TypeId) (x : Sc.It) (ib : Nat) (Q : Tr.PT → Prop) (G : σ → Prop) (st : Sc.Env → Tr.PT → σ → σ) (I : σ → World → Prop) (p : Tr.PT) : Prop :=
 ∀ (e : Sc.Env) (ep : Option Addr) (up pv : Value) (vb : Nat) (s : σ) (w : World), Sc.shP p → Sc.isExpr p = true → lowP x.base p → Q p → I s w → PtF w F p pv → EnvF w (fun _ => True) e ep → Blk w vb 333 #[pv, .pointer ep, up] → G (walkS x st e p s) →
  Calls Tryz.prog 211 #[ptrV ib, .pointer (some ⟨vb, 0, none⟩), .func (.func Fn) #[] caps] w fun e' w' => e' = .returned (.tuple #[]) ∧ I (walkS x st e p s) w' ∧ KeepC T w w'
set_option maxHeartbeats 4000000 in
set_option maxRecDepth 100000 in
theorem walk_gap (V : VisE Fn caps w0 F T x ib Q G st I) (t : Bs) (a : Nat) (d : Bool) : WalkE Fn caps F T x ib Q G st I (.gap t a d) := by
 intro e ep up pv vb s w _ _ _ hQ hI hp he hv hG
 have hS : walkS x st e (.gap t a d) s = st e (.gap t a d) s := by unfold walkS; rfl
 rw [hS] at hG ⊢
 have hcl := V.call e _ pv ep up vb s w hQ hp he hv hI hG
 have hrun := V.run
 have hty := V.types.2.1
 obtain ⟨g, rfl, _⟩ := hp
 have has := fun w => as_gap_branch ⟨g, 0, none⟩ w
 generalize st e (.gap t a d) s = s' at *
 clear V hI he
 unfold ptrV
 go_enter Tryz.func211, Tryz.ntmps211
 go_wp2_with fail
 refine hcl.mono ?_
 clear hcl
 rintro e' w1 ⟨rfl, hI1, hK⟩
 have v0 := (hv.keepC hK hty).cell 0
 simp at v0
 go_wp2_with fail
 refine bodyPost_ret (results_none rfl _ _ _) rfl ?_
 exact ⟨rfl, hI1, hK⟩
end
end Go.Proofs.YtcjjfeephaddcaaGreatDoor
namespace Go.Proofs.YtcjjfeephaddcaaGreatDoor.Tr
mutual
def cntP : PT → Nat
 | .leaf _ _ _ => 1
 | .gap _ _ _ => 1
 | .branch _ _ l => 1 + cntsP l
def cntsP : List PT → Nat
 | [] => 0
 | p :: l => cntP p + cntsP l
end
theorem cnts_app : ∀ (l m : List PT), cntsP (l ++ m) = cntsP l + cntsP m
 | [], m => by simp only [List.nil_append, cntsP, Nat.zero_add]
 | p :: l, m => by simp only [List.cons_append, cntsP, cnts_app l m]; omega
structure Ct (T : List (Nat × Nat × Nat)) (i : Nat) (c : Int) (st : St) : Prop where
 up : i ≤ st.2
 le : st.2 ≤ T.length
 cnt : (cntsP st.1 : Int) ≤ 20 * ((st.2 : Int) - i) + c
def CtF (T : List (Nat × Nat × Nat)) (f : Nat → St) (c : Int) : Prop := ∀ i, i ≤ T.length → Ct T i c (f i)
def CtO (T : List (Nat × Nat × Nat)) (f : Nat → PT × Nat) (c : Int) : Prop := CtF T (fun i => oneP (f i)) c
section
variable {T : List (Nat × Nat × Nat)} {i : Nat} {c d : Int} {st u : St}
theorem Ct.thn {f : Nat → St} (h : Ct T i c st) (hf : Ct T st.2 d (f st.2)) : Ct T i (c + d) (thn st f) := by
 refine ⟨Nat.le_trans h.up hf.up, hf.le, ?_⟩
 unfold Tr.thn
 dsimp only
 rw [cnts_app]
 have := h.cnt
 have := hf.cnt
 omega
theorem Ct.thnF {f : Nat → St} (h : Ct T i c st) (hf : CtF T f d) : Ct T i (c + d) (Tr.thn st f) := h.thn (hf st.2 h.le)
theorem Ct.mono (h : Ct T i c st) (hd : c ≤ d) : Ct T i d st := ⟨h.up, h.le, by have := h.cnt; omega⟩
theorem Ct.ite {p : Bool} (h : Ct T i c st) (hu : Ct T i c u) : Ct T i c (if p then st else u) := by
 split
 ·exact h
 ·exact hu
theorem Ct.nil (hi : i ≤ T.length) : Ct T i 0 ([], i) := ⟨Nat.le_refl _, hi, by simp [cntsP]⟩
theorem Ct.br {kind a : Nat} (h : Ct T i c st) : Ct T i (c + 1) ([.branch kind a st.1], st.2) := by
 refine ⟨h.up, h.le, ?_⟩
 simp only [cntsP, cntP]
 have := h.cnt
 omega
end
section
variable (s : List UInt8) (T : List (Nat × Nat × Nat)) (b : Nat)
theorem cnts_leaves : ∀ l : List (Nat × Nat × Nat), cntsP (l.map (leafP s b)) = l.length
 | [] => rfl
 | t :: l => by
  simp only [List.map_cons, cntsP, List.length_cons, cnts_leaves l]
  have : cntP (leafP s b t) = 1 := rfl
  omega
theorem take_ct : CtF T (takeP s T b) 0 := fun i hi => by
 have h1 := to_ge T i hi
 have h2 := to_le T i
 refine ⟨h1, h2, ?_⟩
 unfold takeP
 dsimp only
 rw [cnts_leaves, List.length_take, List.length_drop]
 omega
theorem take_ct1 (i : Nat) (hi : i ≤ T.length) (hn : nextP T i < T.length) : Ct T i (-19) (takeP s T b i) := by
 have h1 := to_gt T i hn
 have h2 := to_le T i
 refine ⟨by show i ≤ toP T i; omega, h2, ?_⟩
 unfold takeP
 dsimp only
 rw [cnts_leaves, List.length_take, List.length_drop]
 omega
theorem miss_ct (w : List UInt8) : CtF T (missP s T b w) 1 := fun i hi => ⟨Nat.le_refl _, hi, by unfold missP; simp [cntsP, cntP]⟩
theorem want_ct (w : List UInt8) : CtF T (wantP s T b w) 1 := fun i hi => by
 unfold wantP
 exact ((take_ct s T b i hi).mono (by omega)).ite (miss_ct s T b w i hi)
theorem name_ct : CtF T (nameP s T b) 1 := fun i hi => by
 unfold nameP
 split
 ·exact (take_ct s T b i hi).mono (by omega)
 ·exact miss_ct s T b sName i hi
theorem many_ct {one : Nat → St} (ho : CtF T one 1) {i : Nat} {c : Int} : ∀ (f : Nat) (st : St), Ct T i c st → Ct T i c (manyP s T b one f st)
 | 0, st, h => h
 | f + 1, st, h => by
  rw [many_succ]
  split
  ·rename_i hi
   exact many_ct ho f _ (((h.thn (take_ct1 s T b st.2 h.le (is_lt s T hi))).thnF ho).mono (by omega))
  ·exact h
theorem params_ct : CtO T (paramsP s T b) 4 := fun i hi => by
 have h1 := want_ct s T b [40] i hi
 have h2 := many_ct s T b (name_ct s T b) (T.length + 1) _ (h1.thnF (name_ct s T b))
 exact ((((h1.mono (by omega : (1 : Int) ≤ 2)).ite (p := isP s T [[41]] (wantP s T b [40] i).2) h2).thnF (want_ct s T b [41])).br).mono (by omega)
theorem list_ct {e : Nat → St} (he : CtF T e 1) (kind : Nat) (shut : List UInt8) (i : Nat) (hi : i ≤ T.length) (hn : nextP T i < T.length) : Ct T i (-16) (oneP (listP s T b e kind shut i)) := by
 have h1 := take_ct1 s T b i hi hn
 have h2 := many_ct s T b he (T.length + 1) _ (h1.thnF he)
 exact ((((h1.mono (by omega : (-19 : Int) ≤ -18)).ite (p := isP s T [shut] (takeP s T b i).2) h2).thnF (want_ct s T b shut)).br).mono (by omega)
theorem part_ct {e : Nat → St} (he : CtF T e 1) : CtO T (partP s T b e) 1 := fun i hi => by
 show Ct T i 1 (oneP (partP s T b e i))
 unfold partP
 split
 ·exact ((take_ct s T b i hi).br).mono (by omega)
 split
 ·rename_i h
  exact ((((take_ct1 s T b i hi (is_lt s T h)).thnF he).thnF (want_ct s T b [41])).br).mono (by omega)
 split
 ·rename_i h
  exact (list_ct s T b he 13 [93] i hi (is_lt s T h)).mono (by omega)
 ·exact miss_ct s T b sExpr i hi
theorem calls_ct {e : Nat → St} (he : CtF T e 1) {i : Nat} : ∀ (f : Nat) (r : PT × Nat), Ct T i 1 (oneP r) → Ct T i 1 (oneP (callsP s T b e f r))
 | 0, r, h => h
 | f + 1, r, h => by
  rw [calls_succ]
  split
  ·rename_i hi
   refine calls_ct he f _ ?_
   have h2 := h.thn (f := fun i => oneP (listP s T b e 12 [41] i)) (list_ct s T b he 12 [41] r.2 h.le (is_lt s T hi))
   exact (h2.br (kind := 11) (a := r.1.from_)).mono (by omega)
  ·exact h
theorem call_ct {e : Nat → St} (he : CtF T e 1) : CtO T (callP s T b e) 1 := fun i hi => calls_ct s T b he _ _ (part_ct s T b he i hi)
theorem bin_ct {one : Nat → PT × Nat} (ho : CtO T one 1) {i : Nat} {r : PT × Nat} (h : Ct T i 1 (oneP r)) (hn : nextP T r.2 < T.length) : Ct T i 1 (oneP (binP s T b one r)) := by
 have h1 := (h.thn (f := takeP s T b) (take_ct1 s T b r.2 h.le hn)).thnF ho
 exact (h1.br (kind := 10) (a := r.1.from_)).mono (by omega)
theorem rows_ct {one : Nat → PT × Nat} (ho : CtO T one 1) (signs : List (List UInt8)) {i : Nat} : ∀ (f : Nat) (r : PT × Nat), Ct T i 1 (oneP r) → Ct T i 1 (oneP (rowsP s T b one signs f r))
 | 0, r, h => h
 | f + 1, r, h => by
  rw [rows_succ]
  split
  ·rename_i hi
   exact rows_ct ho signs f _ (bin_ct s T b ho h (is_lt s T hi))
  ·exact h
theorem row_ct {one : Nat → PT × Nat} (ho : CtO T one 1) (signs : List (List UInt8)) : CtO T (rowP s T b one signs) 1 := fun i hi => rows_ct s T b ho signs _ _ (ho i hi)
theorem comp_ct {e : Nat → St} (he : CtF T e 1) : CtO T (compP s T b e) 1 := fun i hi => by
 have hs : CtO T (sumP s T b e) 1 := row_ct s T b (row_ct s T b (call_ct s T b he) _) _
 show Ct T i 1 (oneP (compP s T b e i))
 unfold compP
 split
 ·rename_i h
  exact bin_ct s T b hs (hs i hi) (is_lt s T h)
 ·exact hs i hi
theorem expr_ct : ∀ f, CtO T (exprP s T b f) 1
 | 0 => fun i hi => ⟨Nat.le_refl _, hi, by simp [oneP, exprP, cntsP, cntP]⟩
 | f + 1 => fun i hi => by
  have he := expr_ct f
  have ht := take_ct1 s T b i hi
  show Ct T i 1 (oneP (exprP s T b (f + 1) i))
  rw [exprP]
  split
  ·rename_i h
   exact (((((((ht (is_lt s T h)).thnF (name_ct s T b)).thnF (want_ct s T b [61])).thnF he).thnF (want_ct s T b sIn)).thnF he).br).mono (by omega)
  split
  ·rename_i h
   exact (((((((ht (is_lt s T h)).thnF he).thnF (want_ct s T b sThen)).thnF he).thnF (want_ct s T b sElse)).thnF he).br).mono (by omega)
  split
  ·rename_i h
   exact (((((ht (is_lt s T h)).thnF (params_ct s T b)).thnF (want_ct s T b [61, 62])).thnF he).br).mono (by omega)
  ·exact comp_ct s T b he i hi
theorem pub_ct : CtF T (pubP s T b) 0 := fun i hi => by
 unfold pubP
 exact (take_ct s T b i hi).ite (Ct.nil hi)
theorem use_ct {i : Nat} {st : St} (h : Ct T i 0 st) : Ct T i 6 (useP s T b st) := by
 unfold useP
 have h4 := (((h.thnF (want_ct s T b sUse)).thnF (name_ct s T b)).thnF (want_ct s T b [46])).thnF (name_ct s T b)
 have h5 := (h4.thnF (take_ct s T b)).thnF (name_ct s T b)
 exact ((h5.ite (h4.mono (by omega))).thnF (want_ct s T b [59])).mono (by omega)
theorem def_ct {i : Nat} {st : St} (h : Ct T i 0 st) : Ct T i 9 (defP s T b st) := by
 unfold defP
 have h4 := (h.thnF (want_ct s T b sDef)).thnF (name_ct s T b)
 have h5 := h4.thnF (params_ct s T b)
 exact ((((h5.ite (h4.mono (by omega))).thnF (want_ct s T b [61])).thnF (expr_ct s T b 65)).thnF (want_ct s T b [59])).mono (by omega)
theorem item_ct : CtO T (itemP s T b) 10 := fun i hi => by
 have h0 := pub_ct s T b i hi
 show Ct T i 10 (oneP (itemP s T b i))
 unfold itemP
 split
 ·exact ((use_ct s T b h0).br).mono (by omega)
 ·exact ((def_ct s T b h0).br).mono (by omega)
theorem junks_ct {i : Nat} : ∀ (f : Nat) (last : Bool) (st : St), Ct T i 0 st → Ct T i 0 (junksP s T b f last st)
 | 0, _, st, h => h
 | f + 1, last, st, h => by
  rw [junks_succ]
  split
  ·exact junks_ct f _ _ ((h.thnF (take_ct s T b)).mono (by omega))
  ·exact h
theorem kid_ct : CtO T (kidP s T) 10 := fun i hi => by
 show Ct T i 10 (oneP (kidP s T i))
 unfold kidP
 split
 ·exact item_ct s T _ i hi
 ·exact ((junks_ct s T (absP s T i) (T.length + 1) false ([], i) (Ct.nil hi)).br).mono (by omega)
theorem kids_ct : ∀ (f i : Nat), i ≤ T.length → i ≤ (kidsP s T f i).2 ∧ (kidsP s T f i).2 ≤ T.length ∧ cntsP ((kidsP s T f i).1.map (·.part)) ≤ 30 * ((kidsP s T f i).2 - i)
 | 0, i, hi => ⟨Nat.le_refl _, hi, by unfold kidsP; simp [cntsP]⟩
 | f + 1, i, hi => by
  rw [kids_succ]
  split
  ·rename_i hn
   have h1 := (kid_ct s T i hi).cnt
   have h2 : (kidP s T i).2 ≤ T.length := (kid_ct s T i hi).le
   have hg := kid_gt s T i hi hn
   obtain ⟨c1, c2, c3⟩ := kids_ct f (kidP s T i).2 h2
   have e : (kdP s T i).part = (kidP s T i).1 := rfl
   simp only [oneP, cntsP] at h1
   simp only [List.map_cons, cntsP, e]
   refine ⟨by omega, c2, by omega⟩
  ·exact ⟨Nat.le_refl _, hi, by simp [cntsP]⟩
end
end Go.Proofs.YtcjjfeephaddcaaGreatDoor.Tr
