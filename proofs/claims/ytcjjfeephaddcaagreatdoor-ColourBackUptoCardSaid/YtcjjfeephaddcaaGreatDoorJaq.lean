/-
  JOINED of the texts EA EB EC
-/
import Derived.Test.YtcjjfeephaddcaaGreatDoorJap
set_option linter.all false
namespace Go.Proofs.YtcjjfeephaddcaaGreatDoor
open Go.RowKit Go.Maps
theorem Tr.cnt_pos : ∀ p : Tr.PT, 1 ≤ Tr.cntP p
 | .leaf _ _ _ => by simp [Tr.cntP]
 | .gap _ _ _ => by simp [Tr.cntP]
 | .branch _ _ l => by simp [Tr.cntP]
theorem Tr.cnt_mem : ∀ {l : List Tr.PT} {p : Tr.PT}, p ∈ l → Tr.cntP p ≤ Tr.cntsP l
 | [], _, h => absurd h (by simp)
 | q :: l, p, h => by
  simp only [Tr.cntsP]
  rcases List.mem_cons.1 h with rfl | h
  ·omega
  ·have := Tr.cnt_mem h; omega
theorem Tr.cnt_len : ∀ l : List Tr.PT, l.length ≤ Tr.cntsP l
 | [] => by simp
 | p :: l => by
  have := Tr.cnt_len l
  have := Tr.cnt_pos p
  simp only [Tr.cntsP, List.length_cons]
  omega
section
variable (W : Sc.Wk) (x : Sc.It)
theorem visit_other {e : Sc.Env} {p : Tr.PT} (h7 : Sc.kindOf p ≠ 7) (h9 : Sc.kindOf p ≠ 9) (h18 : Sc.kindOf p ≠ 18) : Sc.visitM W x e p = [] := by
 unfold Sc.visitM
 rw [if_neg h7, if_neg h9, if_neg h18]
mutual
theorem walkS_M : ∀ (p : Tr.PT) (e : Sc.Env) (us : List Sc.Us), walkS x (fun e p us => us ++ Sc.visitM W x e p) e p us = us ++ Sc.walkM W x e p
 | .leaf k t a, e, us => by
  unfold walkS Sc.walkM
  rw [visit_other W x (by simp [Sc.kindOf]) (by simp [Sc.kindOf]) (by simp [Sc.kindOf])]
 | .gap t a d, e, us => by
  unfold walkS Sc.walkM
  rw [visit_other W x (by simp [Sc.kindOf]) (by simp [Sc.kindOf]) (by simp [Sc.kindOf])]
 | .branch k a l, e, us => by
  unfold walkS Sc.walkM
  rw [walksS_M l]
  by_cases hk : k = 12
  ·rw [if_pos hk, visit_other W x (by simp [Sc.kindOf, hk]) (by simp [Sc.kindOf, hk]) (by simp [Sc.kindOf, hk]), List.nil_append]
  ·rw [if_neg hk, List.append_assoc]
theorem walksS_M : ∀ (l : List Tr.PT) (e1 e2 : Sc.Env) (us : List Sc.Us), walksS x (fun e p us => us ++ Sc.visitM W x e p) e1 e2 l us = us ++ Sc.walksM W x e1 e2 l
 | [], _, _, us => by unfold walksS Sc.walksM; simp
 | p :: l, e1, e2, us => by
  unfold walksS Sc.walksM
  split
  ·rw [walkS_M p, walksS_M l, List.append_assoc]
  ·exact walksS_M l _ _ _
end
end
theorem Sc.words_len (b : Nat) (p : Tr.PT) : (Sc.wordsOf b p).length ≤ (Sc.kidsOf p).length := by
 unfold Sc.wordsOf Sc.namesP
 rw [List.length_map]
 exact List.length_filterMap_le _ _
theorem Sc.at_cnt (l : List Tr.PT) (i n : Nat) (h : ∀ p ∈ l, Tr.cntP p ≤ n) (hn : 1 ≤ n) : Tr.cntP (Sc.atP l i) ≤ n := by
 unfold Sc.atP
 cases hi : l[i]? with
 | none => simpa [Sc.nonP, Tr.cntP] using hn
 | some p => exact h p (List.mem_of_getElem? hi)
theorem Sc.kids_cnt (p : Tr.PT) : (Sc.kidsOf p).length ≤ Tr.cntP p := by
 cases p with
 | leaf _ _ _ => simp [Sc.kidsOf]
 | gap _ _ _ => simp [Sc.kidsOf]
 | branch k a l =>
  have := Tr.cnt_len l
  simp only [Sc.kidsOf, Tr.cntP]
  omega
theorem Sc.fun_words (b : Nat) (p : Tr.PT) : (Sc.wordsOf b (Sc.atP (Sc.senseP p) 1)).length ≤ Tr.cntP p := by
 have h1 := Sc.words_len b (Sc.atP (Sc.senseP p) 1)
 have h2 := Sc.kids_cnt (Sc.atP (Sc.senseP p) 1)
 have h3 := Sc.at_cnt (Sc.senseP p) 1 (Tr.cntP p) (fun q hq => by
  have h4 : q ∈ Sc.kidsOf p := (List.mem_filter.1 hq).1
  cases p with
  | leaf _ _ _ => exact absurd h4 (by simp [Sc.kidsOf])
  | gap _ _ _ => exact absurd h4 (by simp [Sc.kidsOf])
  | branch k a l =>
   have := Tr.cnt_mem (l := l) h4
   simp only [Tr.cntP]
   omega) (Tr.cnt_pos p)
 omega
theorem Sc.visit_len (W : Sc.Wk) (x : Sc.It) (e : Sc.Env) (p : Tr.PT) : (Sc.visitM W x e p).length ≤ Tr.cntP p := by
 have h0 := Tr.cnt_pos p
 unfold Sc.visitM
 split
 ·rw [List.length_map]
  cases Sc.letM x.base p <;> simp [h0]
 ·split
  ·exact Nat.le_trans (Sc.params_len _ _ _) (Sc.fun_words _ _)
  ·split
   ·simpa using h0
   ·simp
def QV (x : Sc.It) (p : Tr.PT) : Prop := Sc.shP p ∧ lowP x.base p ∧ Tr.cntP p ≤ 1000000
theorem qv_sub (x : Sc.It) (k a : Nat) (l : List Tr.PT) (h : QV x (.branch k a l)) : l.length ≤ 1000000000 ∧ (∀ p ∈ l, Sc.isExpr p = true → QV x p) ∧ (k = 11 → ∀ k2 a2 m, .branch k2 a2 m ∈ l → m.length ≤ 1000000000 ∧ ∀ p ∈ m, Sc.isExpr p = true → QV x p) := by
 obtain ⟨h1, h2, h3⟩ := h
 unfold Sc.shP at h1
 unfold lowP at h2
 simp only [Tr.cntP] at h3
 refine ⟨h2.1, fun p hp _ => ⟨(Sc.shs_mem l).1 h1.2 p hp, lows_mem h2.2 p hp, by have := Tr.cnt_mem hp; omega⟩, fun _ k2 a2 m hm => ?_⟩
 have hc := Tr.cnt_mem hm
 have hlm := lows_mem h2.2 _ hm
 unfold lowP at hlm
 simp only [Tr.cntP] at hc
 exact ⟨hlm.1, fun p hp _ => ⟨shs_of_br h1.2 hm hp, lows_mem hlm.2 p hp, by have := Tr.cnt_mem hp; omega⟩⟩
section
variable {w0 : World} {F : Nat → Prop} {pg mb : Nat} {A : Option Addr} {c : Nat} {fs : List Fl} {Ad : Option Addr} {cd : Nat} {W : Sc.Wk} {GG : List (List Nat)} {ts is : Value}
def VisI (w0 : World) (pg mb : Nat) (fv ts is dv : Value) (pb xb ib : Nat) (us : List Sc.Us) (w : World) : Prop :=
 PgS w0 w pg mb fv ts is dv us ∧ Blk w pb 77 #[ptrV pg] ∧ Blk w xb 229 #[ptrV ib]
set_option maxHeartbeats 4000000 in
set_option maxRecDepth 100000 in
theorem vis_ok (h : Ph w0 F pg mb A c fs Ad cd W GG) {f k ib : Nat} {x : Sc.It} (hx : ItAt W GG f k x ib) (pb xb : Nat) :
  VisE 170 #[ptrV pb, ptrV xb] w0 F [86, 31] x ib (QV x) (fun us : List Sc.Us => us.length + 1000000 ≤ 1000000000) (fun e p us => us ++ Sc.visitM W x e p) (VisI w0 pg mb (.slice A fs.length c) ts is (.slice Ad W.items.length cd) pb xb ib) where
 run := fun _ _ => rfl
 keep := fun s w hI => ⟨hI.1.size, fun b hb hl => hI.1.old b hl (h.ok b hb).2.1 (h.ok b hb).2.2⟩
 fok := fun b hb => (h.ok b hb).1
 below := fun s w w' hI hd => ⟨hI.1.below hd, hI.2.1.below hd hI.2.1.lt, hI.2.2.below hd hI.2.2.lt⟩
 base := fun s w hI => by
  obtain ⟨tw, hI2⟩ := (h.at_ hI.1).item hx
  obtain ⟨_, _, qb, nv, Ap, cp, ev, mv, me, av, hB, _⟩ := hI2
  exact ⟨_, hB, rfl⟩
 types := by decide
 call := by
  rintro e p pv ep up vb us w ⟨q1, q2, q3⟩ hp he hv ⟨hP, hpb, hxb⟩ hG
  have hvl := Sc.visit_len W x e p
  have hpl := Sc.fun_words x.base p
  have hG : (us ++ Sc.visitM W x e p).length + 1000000 ≤ 1000000000 := hG
  rw [List.length_append] at hG
  have hvi := sc_visit h hP hx he hp hv q1 q2 (by omega) (by omega) (fun _ => by omega)
  have p0 := hpb.cell 0
  have x0 := hxb.cell 0
  simp [ptrV] at p0 x0
  have Hpb := Lib.hid hpb
  have Hxb := Lib.hid hxb
  clear hpb hxb hp he hv hP hG hvl hpl q1 q2 q3
  unfold ptrV at *
  generalize us ++ Sc.visitM W x e p = us2 at *
  go_enter Tryz.func170, Tryz.ntmps170
  go_wp2_with fail
  refine hvi.mono ?_
  clear hvi p0 x0
  rintro e' w' ⟨rfl, hP, hK⟩
  go_wp2_with fail
  go_end0
  exact ⟨rfl, ⟨hP, Hpb.out.keepC hK (by decide), Hxb.out.keepC hK (by decide)⟩, hK⟩
 back := fun e p s hG => by
  have hG : (s ++ Sc.visitM W x e p).length + 1000000 ≤ 1000000000 := hG
  rw [List.length_append] at hG
  show s.length + 1000000 ≤ 1000000000
  omega
 sub := qv_sub x
end
section
variable {σ : Type} {Fn : Nat} {caps : Array Value} {w0 : World} {F : Nat → Prop} {T : List TypeId} {x : Sc.It} {ib : Nat} {Q : Tr.PT → Prop} {G : σ → Prop} {st : Sc.Env → Tr.PT → σ → σ} {I : σ → World → Prop}
def WaS (ib pb : Nat) (ev sv : Value) (w' : World) : Prop := w'.cell? ⟨ib, 8, none⟩ = some ev ∧ w'.cell? ⟨ib, 7, none⟩ = some sv ∧ w'.cell? ⟨ib, 2, none⟩ = some (ptrV pb)
set_option maxHeartbeats 8000000 in
set_option maxRecDepth 100000 in
theorem sc_Walk (V : VisE Fn caps w0 F T x ib Q G st I) {s : σ} {w : World} {tw : Bool} (hit : ItF w F x tw ib) (hd : x.isDef = true) (hI : I s w) (hsh : Sc.shP x.expr) (hex : Sc.isExpr x.expr = true) (hlo : lowP x.base x.expr) (hQ : Q x.expr) (hpl : x.params.length ≤ 1000000000) (hG : G (walkS x st (Sc.innerM x.params []) x.expr s)) :
  Calls Tryz.prog 169 #[ptrV ib, .func (.func Fn) #[] caps] w fun e' w' => e' = .returned (.tuple #[]) ∧ I (walkS x st (Sc.innerM x.params []) x.expr s) w' ∧ KeepC T w w' := by
 have hwk := sc_walk V x.expr
 obtain ⟨hFi, _, pb, nv, A, c, ev, mv, me, av, hB, hpp, hn, hc, hr, hty, he, h1, h2, h3⟩ := hit
 have hpe := he hd
 obtain ⟨kd, gv, rfl⟩ := hpe.form
 have i8 := hB.cell 8
 have i7 := hB.cell 7
 have i2 := hB.cell 2
 simp [itC] at i8 i7 i2
 have hS0 : WaS ib pb (.iface kd (.pointer (some ⟨gv, 0, none⟩))) (.slice A x.params.length c) w.drew := ⟨i8, i7, i2⟩
 have hfo := V.fok ib hFi
 have hdr : Below w.heap.size w w.drew := (Below.refl _ _).drew
 have hI2 := V.below _ _ _ hI hdr
 have hK2 : KeepC T w w.drew := KeepC.below hdr
 have hpe2 := hpe.below hdr
 have hr2 : WdR w.drew F A x.params := hr.below hdr
 have hB2 := hB.drew
 clear hn hc hr hty he h1 h2 h3 hpp hB i8 i7 i2 hpe hd hI hdr
 go_enter Tryz.func169, Tryz.ntmps169
 go_upto_region 1 with fail
 refine wp_region_G 100 (WaS ib pb (.iface kd (.pointer (some ⟨gv, 0, none⟩))) (.slice A x.params.length c)) (by kernel_rfl) ?_
 generalize w.drew = w2 at *
 unfold WaS at *
 refine wpAnyG_tk 0 hS0 ?_
 simp only [Act.put, List.setIfInBounds_toArray]
 refine wpAnyG_tk 1 hS0 ?_
 simp only [Act.put]
 refine wpAnyG_tk 2 hS0 ?_
 simp only [Act.put]
 refine wpAnyG_tk 3 hS0 ?_
 simp only [Act.put]
 refine wpAnyG_tk 4 hS0 ?_
 simp only [Act.put]
 refine wpAnyG_tk 5 hS0 ?_
 simp only [Act.put]
 refine wpAnyG_tk 6 hS0 ?_
 simp only [Act.put]
 refine wpAnyG_tk 7 hS0 ?_
 simp only [Act.put]
 refine wpAnyG_tk 8 hS0 ?_
 simp only [Act.put]
 refine wpAnyG_tk 9 hS0 ?_
 simp only [Act.put]
 refine wpAnyG_tk 11 hS0 ?_
 simp only [Act.put]
 refine wpAnyG_tk 12 hS0 ?_
 simp only [Act.put]
 refine wpAnyG_tk 13 hS0 ?_
 simp only [Act.put]
 refine wpAnyG_tk 14 hS0 ?_
 simp only [Act.put]
 refine wpAnyG_tk 17 hS0 ?_
 simp only [Act.put]
 clear hS0
 have hin := sc_inner (w := w2) (Fe := fun _ => True) (env := []) (p := none) rfl (A := A) (c := c) hr2 hpl
 refine wpAnyG_on 10 fun C hC => ?_
 go_simp
 refine hin.mono ?_
 clear hin
 rintro e3 w3 ⟨q, rfl, hE3, hd3⟩
 have hB3 := hB2.below hd3 hB2.lt
 have hI3 := V.below _ _ _ hI2 hd3
 have hK3 := hK2.trans (KeepC.below hd3)
 have hpe3 := hpe2.below hd3
 have hS3 : WaS ib pb (.iface kd (.pointer (some ⟨gv, 0, none⟩))) (.slice A x.params.length c) w3 := ⟨by have := hB3.cell 8; simpa [itC] using this, by have := hB3.cell 7; simpa [itC] using this, by have := hB3.cell 2; simpa [itC] using this⟩
 unfold WaS at hS3
 refine hC.out _ _ (fun _ => hS3) ?_
 clear hC C hB2 hI2 hK2 hpe2 hr2 hd3
 refine wpAnyG_tk 15 hS3 ?_
 simp only [Act.put]
 clear hS3
 have hd4 : Below w3.heap.size w3 (w3.alloc (.cells #[.iface kd (.pointer (some ⟨gv, 0, none⟩)), .pointer q, .pointer (some ⟨pb, 0, none⟩)] 333)) := (Below.refl _ _).alloc (Nat.le_refl _) _
 have hn := Blk.new w3 333 #[.iface kd (.pointer (some ⟨gv, 0, none⟩)), .pointer q, .pointer (some ⟨pb, 0, none⟩)]
 have hI4 := V.below _ _ _ hI3 hd4
 have hK4 := hK3.trans (KeepC.below hd4)
 have hp4 := hpe3.below hd4
 have he4 := hE3.below hd4
 have hB4 := hB3.below hd4 hB3.lt
 have HS4 : Hid (WaS ib pb (.iface kd (.pointer (some ⟨gv, 0, none⟩))) (.slice A x.params.length c) (w3.alloc (.cells #[.iface kd (.pointer (some ⟨gv, 0, none⟩)), .pointer q, .pointer (some ⟨pb, 0, none⟩)] 333))) := ⟨by have := hB4.cell 8; simpa [itC] using this, by have := hB4.cell 7; simpa [itC] using this, by have := hB4.cell 2; simpa [itC] using this⟩
 unfold WaS at HS4
 clear hI3 hK3 hpe3 hE3 hd4 hB3
 refine wpAnyG_on 16 fun C hC => ?_
 go_simp
 refine hC.out _ _ (fun _ => HS4.out) ?_
 clear hC C
 clear HS4
 obtain ⟨ne, hne⟩ : ∃ ne, ne = w3.heap.size := ⟨_, rfl⟩
 rw [← hne] at hn ⊢
 clear hne
 generalize w3.alloc (.cells #[.iface kd (.pointer (some ⟨gv, 0, none⟩)), .pointer q, .pointer (some ⟨pb, 0, none⟩)] 333) = w4 at *
 have hcl := hwk (Sc.innerM x.params []) q (.pointer (some ⟨pb, 0, none⟩)) _ ne s w4 hsh hex hlo hQ hI4 hp4 he4 hn hG
 clear hwk hsh hex hlo hQ hp4 he4 hn hG
 generalize hs2 : walkS x st (Sc.innerM x.params []) x.expr s = s2 at *
 have Hs2 := Lib.hid hs2
 clear hs2
 unfold ptrV at *
 refine wpAnyG_on 18 fun C hC => ?_
 go_simp
 refine hcl.mono ?_
 clear hcl
 rintro e5 w5 ⟨rfl, hI5, hK5⟩
 have hsm := (V.same hI4 hI5 ib hFi).2
 have hB5 : Blk w5 ib 234 _ := hsm.trans hB4
 refine hC.out _ _ (fun _ => ⟨by have := hB5.cell 8; simpa [itC] using this, by have := hB5.cell 7; simpa [itC] using this, by have := hB5.cell 2; simpa [itC] using this⟩) ?_
 clear hC C hB4 hI4
 refine wpAnyG_done (by kernel_rfl) ?_ _
 go_wp2_with fail
 go_end0
 exact ⟨rfl, by rw [Hs2.out]; exact hI5, hK4.trans hK5⟩
end
structure DefOk (x : Sc.It) : Prop where
 d : x.isDef = true
 sh : Sc.shP x.expr
 ex : Sc.isExpr x.expr = true
 low : lowP x.base x.expr
 cnt : Tr.cntP x.expr ≤ 1000000
 par : x.params.length ≤ 1000000
 pat : ∀ y : Sc.Wd, some y ∈ x.params → y.at_ ≤ 1000000000
theorem WkF.item2 {w : World} {F : Nat → Prop} {pg : Nat} {A : Option Addr} {c : Nat} {fs : List Fl} {Ad : Option Addr} {cd : Nat} {W : Sc.Wk} {GG : List (List Nat)} (h : WkF w F pg A c fs Ad cd W GG) {f k g : Nat} {x : Sc.It} (hx : ItAt W GG f k x g) : ItF w F x (Sc.twiceM (Sc.itemsAt W f) k) g := by
 obtain ⟨l, G, h1, h2, h3, h4⟩ := hx.ex
 have e1 : Sc.itemsAt W f = l := by unfold Sc.itemsAt; rw [h1]; rfl
 rw [e1]
 exact (h.its f l G h1 h3).2 k x g h2 h4
def DfS (pb xb pg ib nb f a : Nat) (tw : Bool) (w' : World) : Prop := w'.cell? ⟨pb, 0, none⟩ = some (ptrV pg) ∧ w'.cell? ⟨xb, 0, none⟩ = some (ptrV ib) ∧ w'.cell? ⟨ib, 0, none⟩ = some (.int .i64 (f : Int)) ∧
 w'.cell? ⟨ib, 5, none⟩ = some (ptrV nb) ∧ w'.cell? ⟨ib, 4, none⟩ = some (.bool tw) ∧ w'.cell? ⟨nb, 1, none⟩ = some (.int .i64 (a : Int))
def DfS2 (pb xb pg ib f : Nat) (sv : Value) (w' : World) : Prop := w'.cell? ⟨pb, 0, none⟩ = some (ptrV pg) ∧ w'.cell? ⟨xb, 0, none⟩ = some (ptrV ib) ∧ w'.cell? ⟨ib, 0, none⟩ = some (.int .i64 (f : Int)) ∧ w'.cell? ⟨ib, 7, none⟩ = some sv
section
variable {w0 w : World} {F : Nat → Prop} {pg mb : Nat} {A : Option Addr} {c : Nat} {fs : List Fl} {Ad : Option Addr} {cd : Nat} {W : Sc.Wk} {GG : List (List Nat)} {ts is : Value} {us : List Sc.Us}
set_option maxHeartbeats 16000000 in
set_option maxRecDepth 100000 in
theorem sc_defn (h : Ph w0 F pg mb A c fs Ad cd W GG) (hP : PgS w0 w pg mb (.slice A fs.length c) ts is (.slice Ad W.items.length cd) us) {f k ib : Nat} {x : Sc.It} (hx : ItAt W GG f k x ib) (hd : DefOk x) (hl : (us ++ Sc.defM W f k x).length + 1000000 ≤ 1000000000) :
  Calls Tryz.prog 122 #[.pointer (some ⟨pg, 0, none⟩), ptrV ib] w (AddE w0 w pg mb (.slice A fs.length c) ts is (.slice Ad W.items.length cd) (us ++ Sc.defM W f k x)) := by
 have hW := h.at_ hP
 obtain ⟨hfile, hna, _, hfl⟩ := hW.file_of hx
 have hit := hW.item2 hx
 have Hfew : Hid (x.file ≤ 1000000000) := by have := hW.few; have := hW.fl; show _ ≤ _; omega
 have HD : Hid (Sc.defM W f k x = x.name.toList.map (fun w => Sc.itselfM x.file w.at_ 0 (Sc.twiceM (Sc.itemsAt W f) k)) ++ Sc.paramsM x.file [] x.params ++ Sc.walkM W x (Sc.innerM x.params []) x.expr) := rfl
 generalize htw : Sc.twiceM (Sc.itemsAt W f) k = tw at *
 generalize Sc.defM W f k x = dm at *
 have Hl : Hid ((us ++ x.name.toList.map (fun w => Sc.itselfM x.file w.at_ 0 tw) ++ Sc.paramsM x.file [] x.params ++ Sc.walkM W x (Sc.innerM x.params []) x.expr).length + 1000000 ≤ 1000000000) := by
  rw [HD.out] at hl
  show _ ≤ _
  simpa [Nat.add_assoc] using hl
 have HE : Hid (us ++ dm = us ++ x.name.toList.map (fun w => Sc.itselfM x.file w.at_ 0 tw) ++ Sc.paramsM x.file [] x.params ++ Sc.walkM W x (Sc.innerM x.params []) x.expr) := by
  show _ = _
  rw [HD.out]
  simp [List.append_assoc]
 generalize us ++ dm = ud at *
 clear hl HD htw
 have hd1 : Below w.heap.size w ((w.alloc (.cells #[ptrV pg] 77)).alloc (.cells #[ptrV ib] 229)) := ((Below.refl _ w).alloc (Nat.le_refl _) _).alloc (by simp) _
 have hpb : Blk ((w.alloc (.cells #[ptrV pg] 77)).alloc (.cells #[ptrV ib] 229)) w.heap.size 77 #[ptrV pg] := (Blk.new w _ _).alloc _
 have hxb := Blk.new (w.alloc (.cells #[ptrV pg] 77)) 229 #[ptrV ib]
 rw [World.size_alloc] at hxb
 have hP1 := hP.below hd1
 have hK1 : KeepC [86, 31] w ((w.alloc (.cells #[ptrV pg] 77)).alloc (.cells #[ptrV ib] 229)) := KeepC.below hd1
 have hit1 := hit.keep hd1.size (fun b hb hl => ⟨hd1.block b hl, hb⟩)
 have hFi := hit1.1
 obtain ⟨_, _, qb, nv, Ap, cp, ev, mv, me, av, hB, _, hn, _⟩ := hit1
 obtain ⟨xb, hxe⟩ : ∃ xb, xb = w.heap.size + 1 := ⟨_, rfl⟩
 obtain ⟨pb, hpe⟩ : ∃ pb, pb = w.heap.size := ⟨_, rfl⟩
 clear hit hd1 hP hW hfile hfl
 unfold ptrV at *
 go_enter Tryz.func122, Tryz.ntmps122
 go_upto_region 1 with fail
 rw [← hxe] at hxb ⊢
 rw [← hpe] at hpb ⊢
 clear hxe hpe
 generalize (w.alloc (.cells #[.pointer (some ⟨pg, 0, none⟩)] 77)).alloc (.cells #[.pointer (some ⟨ib, 0, none⟩)] 229) = w1 at *
 have x0 := hxb.cell 0
 have i5 := hB.cell 5
 simp [itC] at x0 i5
 generalize hu1 : us ++ x.name.toList.map (fun w => Sc.itselfM x.file w.at_ 0 tw) = u1 at *
 have Hu1 := Lib.hid hu1
 clear hu1
 cases hxn : x.name
 case' none =>
  rw [hxn] at hn
  obtain rfl : nv = .pointer none := hn
  have Hxn := Lib.hid hxn
  clear hxn
  obtain ⟨w2, hw2⟩ : ∃ w2, w2 = w1 := ⟨_, rfl⟩
  have hP2 : PgS w0 w2 pg mb (.slice A fs.length c) ts is (.slice Ad W.items.length cd) u1 := by
   have := Hu1.out
   rw [Hxn.out] at this
   rw [← this, hw2]
   simpa using hP1
  have hK2 : KeepC [86, 31] w w2 := by rw [hw2]; exact hK1
  have hpb2 : Blk w2 pb 77 #[.pointer (some ⟨pg, 0, none⟩)] := by rw [hw2]; exact hpb
  have hxb2 : Blk w2 xb 229 #[.pointer (some ⟨ib, 0, none⟩)] := by rw [hw2]; exact hxb
  go_upto_region 3 with fail
  rw [← hw2]
  clear hw2 hna hP1 hK1 hpb hxb hB x0 i5
 case' some y =>
  rw [hxn] at hn
  obtain ⟨nb, rfl, hFn, hnB⟩ := hn
  have hat := Lib.hid (hna y hxn)
  have Hxn := Lib.hid hxn
  clear hxn hna
  go_upto_region 2 with fail
  refine wp_region_G 100 (DfS pb xb pg ib nb x.file y.at_ tw) (by kernel_rfl) ?_
  have hP2 := hP1.below ((Below.refl _ _).drew)
  have hK2 := hK1.drew
  have hpb2 := hpb.drew
  have hxb2 := hxb.drew
  have hB2 := hB.drew
  have hnB2 := hnB.drew
  clear x0 i5 hP1 hK1 hpb hxb hB hnB
  generalize w1.drew = wa at *
  have hS0 : DfS pb xb pg ib nb x.file y.at_ tw wa := ⟨by have := hpb2.cell 0; simpa using this, by have := hxb2.cell 0; simpa using this, by have := hB2.cell 0; simpa [itC] using this, by have := hB2.cell 5; simpa [itC] using this, by have := hB2.cell 4; simpa [itC] using this, by have := hnB2.cell 1; simpa using this⟩
  unfold DfS ptrV at *
  refine wpAnyG_tk 0 hS0 ?_
  simp only [Act.put, List.setIfInBounds_toArray]
  refine wpAnyG_tk 1 hS0 ?_
  simp only [Act.put]
  refine wpAnyG_tk 2 hS0 ?_
  simp only [Act.put]
  refine wpAnyG_tk 3 hS0 ?_
  simp only [Act.put]
  refine wpAnyG_tk 4 hS0 ?_
  simp only [Act.put]
  refine wpAnyG_tk 5 hS0 ?_
  simp only [Act.put]
  refine wpAnyG_tk 6 hS0 ?_
  simp only [Act.put]
  refine wpAnyG_tk 7 hS0 ?_
  simp only [Act.put]
  refine wpAnyG_tk 8 hS0 ?_
  simp only [Act.put]
  refine wpAnyG_tk 9 hS0 ?_
  simp only [Act.put]
  refine wpAnyG_tk 10 hS0 ?_
  simp only [Act.put]
  refine wpAnyG_tk 11 hS0 ?_
  simp only [Act.put]
  refine wpAnyG_tk 12 hS0 ?_
  simp only [Act.put]
  refine wpAnyG_tk 13 hS0 ?_
  simp only [Act.put]
  refine wpAnyG_tk 14 hS0 ?_
  simp only [Act.put]
  refine wpAnyG_tk 15 hS0 ?_
  simp only [Act.put]
  clear hS0
  have hit2 := sc_itself x.file y.at_ 0 tw wa
  refine wpAnyG_on 16 fun C hC => ?_
  go_simp
  refine hit2.mono ?_
  clear hit2
  rintro e3 w3 ⟨rfl, hd3⟩
  have hP3 := hP2.below hd3
  have hK3 := hK2.trans (KeepC.below hd3)
  have hpb3 := hpb2.below hd3 hpb2.lt
  have hxb3 := hxb2.below hd3 hxb2.lt
  have hB3 := hB2.below hd3 hB2.lt
  have hnB3 := hnB2.below hd3 hnB2.lt
  clear hP2 hK2 hpb2 hxb2 hB2 hnB2 hd3
  refine hC.out _ _ (fun _ => ⟨by have := hpb3.cell 0; simpa using this, by have := hxb3.cell 0; simpa using this, by have := hB3.cell 0; simpa [itC] using this, by have := hB3.cell 5; simpa [itC] using this, by have := hB3.cell 4; simpa [itC] using this, by have := hnB3.cell 1; simpa using this⟩) ?_
  clear hC C
  have had := sc_add hP3 (u := Sc.itselfM x.file y.at_ 0 tw) Hfew.out hat.out (by have := Hl.out; have h1 := Hu1.out; have h2 : u1.length ≥ us.length := (by rw [← h1]; simp); rw [List.length_append, List.length_append] at this; omega)
  refine wpAnyG_on 17 fun C hC => ?_
  go_simp
  refine had.mono ?_
  clear had
  rintro e4 w2 ⟨rfl, hP4, hK4⟩
  have hpb4 := hpb3.keepC hK4 (by decide)
  have hxb4 := hxb3.keepC hK4 (by decide)
  have hB4 := hB3.keepC hK4 (by decide)
  have hnB4 := hnB3.keepC hK4 (by decide)
  refine hC.out _ _ (fun _ => ⟨by have := hpb4.cell 0; simpa using this, by have := hxb4.cell 0; simpa using this, by have := hB4.cell 0; simpa [itC] using this, by have := hB4.cell 5; simpa [itC] using this, by have := hB4.cell 4; simpa [itC] using this, by have := hnB4.cell 1; simpa using this⟩) ?_
  clear hC C
  have hP2 : PgS w0 w2 pg mb (.slice A fs.length c) ts is (.slice Ad W.items.length cd) u1 := by
   have := Hu1.out
   rw [Hxn.out] at this
   rw [← this]
   exact hP4
  have hK2 := hK3.trans hK4
  have hpb2 := hpb4
  have hxb2 := hxb4
  clear hP3 hP4 hK3 hK4 hpb3 hpb4 hxb3 hxb4 hB3 hB4 hnB3 hnB4 hat
  refine wpAnyG_done (by kernel_rfl) ?_ _
  go_upto_region 3 with fail
 all_goals
  have hP3 := hP2.below ((Below.refl _ _).drew)
  have hK3 := hK2.drew
  have hpb3 := hpb2.drew
  have hxb3 := hxb2.drew
  clear hP2 hK2 hpb2 hxb2
  obtain ⟨tw3, hI3⟩ := (h.at_ hP3).item hx
  obtain ⟨hFi3, _, qb3, nv3, A3, c3, ev3, mv3, me3, av3, hB3, _, _, hc3, hr3, hty3, _⟩ := hI3
  refine wp_region_G 100 (DfS2 pb xb pg ib x.file (.slice A3 x.params.length c3)) (by kernel_rfl) ?_
  generalize w2.drew = w3 at *
  have hS0 : DfS2 pb xb pg ib x.file (.slice A3 x.params.length c3) w3 := ⟨by have := hpb3.cell 0; simpa using this, by have := hxb3.cell 0; simpa using this, by have := hB3.cell 0; simpa [itC] using this, by have := hB3.cell 7; simpa [itC] using this⟩
  unfold DfS2 ptrV at *
  refine wpAnyG_tk 0 hS0 ?_
  simp only [Act.put, List.setIfInBounds_toArray]
  refine wpAnyG_tk 1 hS0 ?_
  simp only [Act.put]
  refine wpAnyG_tk 2 hS0 ?_
  simp only [Act.put]
  refine wpAnyG_tk 3 hS0 ?_
  simp only [Act.put]
  refine wpAnyG_tk 4 hS0 ?_
  simp only [Act.put]
  refine wpAnyG_tk 5 hS0 ?_
  simp only [Act.put]
  refine wpAnyG_tk 6 hS0 ?_
  simp only [Act.put]
  refine wpAnyG_tk 7 hS0 ?_
  simp only [Act.put]
  refine wpAnyG_tk 8 hS0 ?_
  simp only [Act.put]
  clear hS0
  have hpa := sc_params hP3 hr3 hty3 Hfew.out hd.pat (by have h1 := Hl.out; have h2 := hd.par; rw [List.length_append, List.length_append] at h1; omega) hc3
  clear hr3 hty3 hc3
  refine wpAnyG_on 9 fun C hC => ?_
  go_simp
  refine hpa.mono ?_
  clear hpa
  rintro e4 w4 ⟨rfl, hP4, hK4⟩
  have hpb4 := hpb3.keepC hK4 (by decide)
  have hxb4 := hxb3.keepC hK4 (by decide)
  have hB4 := hB3.keepC hK4 (by decide)
  refine hC.out _ _ (fun _ => ⟨by have := hpb4.cell 0; simpa using this, by have := hxb4.cell 0; simpa using this, by have := hB4.cell 0; simpa [itC] using this, by have := hB4.cell 7; simpa [itC] using this⟩) ?_
  clear hC C hP3 hpb3 hxb3 hB3 hB4
  refine wpAnyG_done (by kernel_rfl) ?_ _
  obtain ⟨tw4, hI4⟩ := (h.at_ hP4).item hx
  have hwk := sc_Walk (vis_ok h hx pb xb) hI4 hd.d ⟨hP4, hpb4, hxb4⟩ hd.sh hd.ex hd.low ⟨hd.sh, hd.low, hd.cnt⟩ (by have := hd.par; omega) (by rw [walkS_M]; exact Hl.out)
  rw [walkS_M] at hwk
  have x0 := hxb4.cell 0
  simp at x0
  clear hI4 hpb4 hxb4 hP4
  have HE1 := Lib.hid HE.out.symm
  generalize u1 ++ Sc.paramsM x.file [] x.params ++ Sc.walkM W x (Sc.innerM x.params []) x.expr = u3 at *
  unfold ptrV at hwk
  go_wp2_with fail
  refine hwk.mono ?_
  clear hwk x0
  rintro e5 w5 ⟨rfl, ⟨hP5, _, _⟩, hK5⟩
  go_wp2_with fail
  go_end0
  exact ⟨rfl, by rw [← HE1.out]; exact hP5, (hK3.trans hK4).trans hK5⟩
end
section
variable {P : Program} {ops : Array Oper} {Q : Exit → Act → World → Prop} {md : Region.Mode} {S : World → Prop} {L : Nat}
theorem wpAnyG_two {i j : Nat} {oi oj : Oper} {fuel : Nat} {listed : Array Bool} {a : Act} {w : World}
  (hi : ∀ K' : Act → World → Prop, Shut (∀ a w, (i ≠ L → S w) → wpAnyG P md ops Q S L fuel (listed.setIfInBounds i true) a w → K' a w) → if Region.wanted oi (yielded ops a.tmps) = true then Oper.wp P oi a w K' Q else K' (a.put oi.dst undef) w)
  (hj : ∀ K' : Act → World → Prop, Shut (∀ a w, (j ≠ L → S w) → wpAnyG P md ops Q S L fuel (listed.setIfInBounds j true) a w → K' a w) → if Region.wanted oj (yielded ops a.tmps) = true then Oper.wp P oj a w K' Q else K' (a.put oj.dst undef) w)
  (hr : Region.ready md ops listed = [i, j]) (hoi : ops[i]? = some oi) (hoj : ops[j]? = some oj) : wpAnyG P md ops Q S L (fuel + 1) listed a w :=
 ⟨fun h0 => (by rw [h0] at hr; cases hr), fun l hl => by
  rw [hr, List.mem_cons, List.mem_singleton] at hl
  rcases hl with rfl | rfl
  ·exact wpOp_step hoi fun K' hK => hi K' fun a w hS hW => hK a w ⟨hS, hW⟩
  ·exact wpOp_step hoj fun K' hK => hj K' fun a w hS hW => hK a w ⟨hS, hW⟩⟩
end
theorem ne_word {w : World} {F : Nat → Prop} {x : Option Sc.Wd} {v : Value} (h : WdF w F x v) (a b : Operand) (w' : World) :
  (eqGuard BinOp.neq 231 a b v (.pointer none)).run Tryz.prog w' = .ok () w' ∧ (binOp BinOp.neq 231 v (.pointer none)).run Tryz.prog w' = .ok (.bool x.isSome) w' := by
 cases x with
 | none =>
  obtain rfl : v = .pointer none := h
  exact ⟨by rfl, by kernel_rfl⟩
 | some y =>
  obtain ⟨g, rfl, _⟩ := h
  exact ⟨by rfl, by kernel_rfl⟩
def UsS (ib mb f a : Nat) (j : Nat) (w' : World) : Prop := w'.cell? ⟨ib, 0, none⟩ = some (.int .i64 (f : Int)) ∧ w'.cell? ⟨ib, j, none⟩ = some (ptrV mb) ∧ w'.cell? ⟨mb, 1, none⟩ = some (.int .i64 (a : Int))
section
variable {w0 w : World} {F : Nat → Prop} {pg mb : Nat} {A : Option Addr} {c : Nat} {fs : List Fl} {Ad : Option Addr} {cd : Nat} {W : Sc.Wk} {GG : List (List Nat)} {ts is : Value} {us : List Sc.Us}
set_option maxHeartbeats 16000000 in
set_option maxRecDepth 100000 in
theorem sc_use (h : Ph w0 F pg mb A c fs Ad cd W GG) (hP : PgS w0 w pg mb (.slice A fs.length c) ts is (.slice Ad W.items.length cd) us) {f k ib : Nat} {x : Sc.It} (hx : ItAt W GG f k x ib)
  (hwat : ∀ y : Sc.Wd, (x.mo = some y ∨ x.me = some y ∨ x.al = some y) → y.at_ ≤ 1000000000) (hl : us.length + 1000000 ≤ 1000000000) :
  Calls Tryz.prog 123 #[.pointer (some ⟨pg, 0, none⟩), ptrV ib] w (AddE w0 w pg mb (.slice A fs.length c) ts is (.slice Ad W.items.length cd) (us ++ Sc.useM W f k x)) := by
 obtain ⟨hfile, _, _, hfl⟩ := (h.at_ hP).file_of hx
 have Hfew : Hid (x.file ≤ 1000000000) := by have := (h.at_ hP).few; have := (h.at_ hP).fl; show _ ≤ _; omega
 have HE : Hid (us ++ Sc.useM W f k x = us ++ x.mo.toList.map (Sc.modM W x) ++ x.me.toList.map (fun m => ⟨x.file, m.at_, 4, (Sc.standsM W f k x).1, (Sc.standsM W f k x).2.1, if (Sc.standsM W f k x).2.2 = 0 ∧ x.has = false ∧ Sc.twiceM (Sc.itemsAt W f) k = true then 5 else (Sc.standsM W f k x).2.2⟩) ++
   x.al.toList.map (fun m => ⟨x.file, m.at_, 5, (Sc.standsM W f k x).1, (Sc.standsM W f k x).2.1, if Sc.twiceM (Sc.itemsAt W f) k then 5 else 0⟩)) := by
  show _ = _
  unfold Sc.useM
  simp only [List.append_assoc]
 generalize us ++ Sc.useM W f k x = ue at *
 have hit := (h.at_ hP).item2 hx
 obtain ⟨hFi, _, qb, nv, Ap, cp, ev, mv, me, av, hB, _, _, _, _, _, _, hmo, hme, hal⟩ := hit
 have hF1 : ∀ w' : World, PgS w0 w' pg mb (.slice A fs.length c) ts is (.slice Ad W.items.length cd) us → True := fun _ _ => trivial
 have Hl := Lib.hid hl
 have i10 := hB.cell 10
 simp [itC] at i10
 have hne := fun w' => (ne_word hmo (.tmp 13) (.const (.pointer none)) w').1
 have hne2 := fun w' => (ne_word hmo (.tmp 13) (.const (.pointer none)) w').2
 clear hl hfile hfl hF1
 unfold ptrV at *
 go_enter Tryz.func123, Tryz.ntmps123
 go_upto_if 14 with fail
 clear hne hne2 i10
 have Htw : Hid (∀ w' : World, PgS w0 w' pg mb (.slice A fs.length c) ts is (.slice Ad W.items.length cd) us → True) := fun _ _ => trivial
 clear Htw
 have HB := Lib.hid hB
 have HP := Lib.hid hP
 have Hwat := Lib.hid hwat
 clear hB hP hwat
 go_cut [5] (fun _ wc => PgS w0 wc pg mb (.slice A fs.length c) ts is (.slice Ad W.items.length cd) (us ++ x.mo.toList.map (Sc.modM W x)) ∧ KeepC [86, 31] w wc)
 case first =>
  cases hxm : x.mo with
  | none =>
   have Hxm := Lib.hid hxm
   clear hxm
   go_wp2_with fail
   go_meet
   exact ⟨by rw [Hxm.out]; simpa using HP.out, KeepC.refl _ _⟩
  | some m =>
   rw [hxm] at hmo
   obtain ⟨nb, rfl, hFn, hnB⟩ := hmo
   have Hat := Lib.hid (Hwat.out m (.inl hxm))
   have Hxm := Lib.hid hxm
   clear hxm hme hal
   have HU : Hid (usC (Sc.nothingM x.file m.at_ 3 4) = #[.int .i64 (x.file : Int), .int .i64 (m.at_ : Int), .int .i64 (3 : Int), .int .i64 (-1), .int .i64 (-1), .int .i64 (4 : Int)]) := rfl
   go_upto_region 1 with fail
   go_cut [4] (fun s4 wc => ∃ r, s4 = .pointer (some ⟨r, 0, none⟩) ∧ Blk wc r 31 #[.int .i64 (x.file : Int), .int .i64 (m.at_ : Int), .int .i64 (3 : Int), .int .i64 (-1), .int .i64 (-1), .int .i64 (4 : Int)] ∧ w.heap.size ≤ r ∧ Below w.heap.size w wc)
   case first =>
    have hd0 : Below w.heap.size w w.drew := (Below.refl _ _).drew
    have hB2 := HB.out.drew
    have hnB2 := hnB.drew
    refine wp_region_G 13 (UsS ib nb x.file m.at_ 10) (by kernel_rfl) ?_
    have hsz : w.heap.size = w.drew.heap.size := rfl
    have Hsz := Lib.hid hsz
    clear hsz
    generalize w.drew = w2 at *
    have hS0 : UsS ib nb x.file m.at_ 10 w2 := ⟨by have := hB2.cell 0; simpa [itC] using this, by have := hB2.cell 10; simpa [itC] using this, by have := hnB2.cell 1; simpa using this⟩
    unfold UsS ptrV at *
    refine wpAnyG_tk 0 hS0 ?_
    simp only [Act.put, List.setIfInBounds_toArray]
    refine wpAnyG_tk 1 hS0 ?_
    simp only [Act.put]
    refine wpAnyG_tk 2 hS0 ?_
    simp only [Act.put]
    refine wpAnyG_tk 3 hS0 ?_
    simp only [Act.put]
    refine wpAnyG_tk 4 hS0 ?_
    simp only [Act.put]
    refine wpAnyG_tk 5 hS0 ?_
    simp only [Act.put]
    refine wpAnyG_tk 6 hS0 ?_
    simp only [Act.put]
    refine wpAnyG_tk 7 hS0 ?_
    simp only [Act.put]
    refine wpAnyG_tk 8 hS0 ?_
    simp only [Act.put]
    refine wpAnyG_tk 9 hS0 ?_
    simp only [Act.put]
    refine wpAnyG_tk 10 hS0 ?_
    simp only [Act.put]
    clear hS0
    refine wpAnyG_two (i := 11) (j := 12) (fun C hC => ?_) (fun C hC => ?_) (by kernel_rfl) (by rfl) (by rfl)
    ·have hno := sc_nothing x.file m.at_ 3 4 w2
     unfold UseE at hno
     rw [HU.out] at hno
     go_simp
     refine hno.mono ?_
     clear hno
     rintro e3 w3 ⟨rfl, hd3⟩
     have hB3 := hB2.below hd3 hB2.lt
     have hnB3 := hnB2.below hd3 hnB2.lt
     refine hC.out _ _ (fun _ => ⟨by have := hB3.cell 0; simpa [itC] using this, by have := hB3.cell 10; simpa [itC] using this, by have := hnB3.cell 1; simpa using this⟩) ?_
     clear hC C
     have hd3' := hd0.trans (hd3.mono (by rw [← Hsz.out]; exact Nat.le_refl _))
     have hd4 : Below w3.heap.size w3 (w3.alloc (.cells zero6 31)) := (Below.refl _ _).alloc (Nat.le_refl _) _
     have hn := Blk.new w3 31 zero6
     have hB4 := hB3.below hd4 hB3.lt
     have hnB4 := hnB3.below hd4 hnB3.lt
     have hd4' := hd3'.trans (hd4.mono hd3'.size)
     have HS4 : Hid (UsS ib nb x.file m.at_ 10 (w3.alloc (.cells zero6 31))) := ⟨by have := hB4.cell 0; simpa [itC] using this, by have := hB4.cell 10; simpa [itC] using this, by have := hnB4.cell 1; simpa using this⟩
     have Hr : Hid (w.heap.size ≤ w3.heap.size) := hd3'.size
     unfold UsS ptrV at HS4
     unfold zero6 at *
     clear hd3 hd4 hd3' hB3 hnB3 hB2 hnB2 hd0
     refine wpAnyG_on 12 fun C hC => ?_
     go_simp
     refine hC.out _ _ (fun _ => HS4.out) ?_
     clear hC C
     obtain ⟨r, hr0⟩ : ∃ r, r = w3.heap.size := ⟨_, rfl⟩
     rw [← hr0] at hn Hr ⊢
     clear hr0
     generalize w3.alloc (.cells #[.int .i64 0, .int .i64 0, .int .i64 0, .int .i64 0, .int .i64 0, .int .i64 0] 31) = w4 at *
     obtain ⟨⟨k0, k1, k2, k3, k4, k5⟩, y0, y1, y2, y3, y4, y5⟩ := six_cells hn
     have hb := six_blk hn (.int .i64 (x.file : Int)) (.int .i64 (m.at_ : Int)) (.int .i64 (3 : Int)) (.int .i64 (-1)) (.int .i64 (-1)) (.int .i64 (4 : Int))
     have hb2 := six_below hd4' Hr.out (.int .i64 (x.file : Int)) (.int .i64 (m.at_ : Int)) (.int .i64 (3 : Int)) (.int .i64 (-1)) (.int .i64 (-1)) (.int .i64 (4 : Int))
     refine wpAnyG_on 13 fun C hC => ?_
     go_simp
     refine hC.out _ _ (fun h => absurd rfl h) ?_
     clear hC C
     refine wpAnyG_done (by kernel_rfl) ?_ _
     clear k0 k1 k2 k3 k4 k5 y0 y1 y2 y3 y4 y5 hn hd4'
     go_wp2_with fail
     go_meet
     exact ⟨r, rfl, hb, Hr.out, hb2⟩
    ·have hd3 : Below w2.heap.size w2 (w2.alloc (.cells zero6 31)) := (Below.refl _ _).alloc (Nat.le_refl _) _
     have hn := Blk.new w2 31 zero6
     have hB3 := hB2.below hd3 hB2.lt
     have hnB3 := hnB2.below hd3 hnB2.lt
     have hd3' := hd0.trans (hd3.mono hd0.size)
     have HS3 : Hid (UsS ib nb x.file m.at_ 10 (w2.alloc (.cells zero6 31))) := ⟨by have := hB3.cell 0; simpa [itC] using this, by have := hB3.cell 10; simpa [itC] using this, by have := hnB3.cell 1; simpa using this⟩
     have Hr : Hid (w.heap.size ≤ w2.heap.size) := hd0.size
     unfold UsS ptrV at HS3
     unfold zero6 at *
     clear hd3 hB2 hnB2 hd0
     go_simp
     refine hC.out _ _ (fun _ => HS3.out) ?_
     clear hC C
     obtain ⟨r, hr0⟩ : ∃ r, r = w2.heap.size := ⟨_, rfl⟩
     rw [← hr0] at hn Hr ⊢
     clear hr0
     generalize w2.alloc (.cells #[.int .i64 0, .int .i64 0, .int .i64 0, .int .i64 0, .int .i64 0, .int .i64 0] 31) = w3 at *
     have hno := sc_nothing x.file m.at_ 3 4 w3
     unfold UseE at hno
     rw [HU.out] at hno
     refine wpAnyG_on 11 fun C hC => ?_
     go_simp
     refine hno.mono ?_
     clear hno
     rintro e3 w4 ⟨rfl, hd4⟩
     have hB4 := hB3.below hd4 hB3.lt
     have hnB4 := hnB3.below hd4 hnB3.lt
     have hn := hn.below hd4 hn.lt
     have hd4' := hd3'.trans (hd4.mono hd3'.size)
     refine hC.out _ _ (fun _ => ⟨by have := hB4.cell 0; simpa [itC] using this, by have := hB4.cell 10; simpa [itC] using this, by have := hnB4.cell 1; simpa using this⟩) ?_
     clear hC C hd4 hd3' hB3 hnB3
     obtain ⟨⟨k0, k1, k2, k3, k4, k5⟩, y0, y1, y2, y3, y4, y5⟩ := six_cells hn
     have hb := six_blk hn (.int .i64 (x.file : Int)) (.int .i64 (m.at_ : Int)) (.int .i64 (3 : Int)) (.int .i64 (-1)) (.int .i64 (-1)) (.int .i64 (4 : Int))
     have hb2 := six_below hd4' Hr.out (.int .i64 (x.file : Int)) (.int .i64 (m.at_ : Int)) (.int .i64 (3 : Int)) (.int .i64 (-1)) (.int .i64 (-1)) (.int .i64 (4 : Int))
     refine wpAnyG_on 13 fun C hC => ?_
     go_simp
     refine hC.out _ _ (fun h => absurd rfl h) ?_
     clear hC C
     refine wpAnyG_done (by kernel_rfl) ?_ _
     clear k0 k1 k2 k3 k4 k5 y0 y1 y2 y3 y4 y5 hn hd4'
     go_wp2_with fail
     go_meet
     exact ⟨r, rfl, hb, Hr.out, hb2⟩
   case rest =>
    obtain ⟨r, rfl, hr, hrs, hd⟩ := hcut
    have hP1 := HP.out.below hd
    have hW1 := h.at_ hP1
    have hB1 := HB.out.below hd HB.out.lt
    have hK1 : KeepC [86, 31] w wc := KeepC.below hd
    have hm1 : WdF wc F (some m) (.pointer (some ⟨nb, 0, none⟩)) := ⟨nb, rfl, hFn, hnB.below hd hnB.lt⟩
    have hfi := sc_file (mo := some m) (ib := ib) hW1.files (by have := hW1.few; omega) hW1.p0 (by have := hB1.cell 10; simpa [itC] using this) hm1
    rw [← hW1.names, ← Hxm.out, Sc.file_v] at hfi
    have HM : Hid (Sc.modM W x m = match Sc.fileM W x with
     | some g => ⟨x.file, m.at_, 3, g, -1, 0⟩
     | none => Sc.nothingM x.file m.at_ 3 4) := rfl
    have HL : Hid (us ++ x.mo.toList.map (Sc.modM W x) = us ++ [Sc.modM W x m]) := by show _ = _; rw [Hxm.out]; rfl
    generalize us ++ x.mo.toList.map (Sc.modM W x) = u1 at *
    have Hrs := Lib.hid hrs
    have Hd := Lib.hid hd
    have Hrp : Hid (pg < r) := by have := HP.out.pl; have := HP.out.size; show _ < _; omega
    clear hW1 hB1 hm1 hnB hrs hd
    cases hf : Sc.fileM W x with
    | none =>
     rw [hf] at hfi HM
     have HM : Hid (Sc.modM W x m = Sc.nothingM x.file m.at_ 3 4) := HM
     have hfi : Calls Tryz.prog 173 #[.pointer (some ⟨pg, 0, none⟩), .pointer (some ⟨ib, 0, none⟩)] wc (IdxE (-1) wc) := hfi
     clear hf
     go_wp2_with fail
     refine hfi.mono ?_
     clear hfi
     rintro e2 w2 ⟨rfl, hd2⟩
     have hP2 := hP1.below hd2
     have hr2 := hr.below hd2 hr.lt
     have hK2 := hK1.trans (KeepC.below hd2)
     have had := sc_add hP2 (u := Sc.nothingM x.file m.at_ 3 4) Hfew.out Hat.out (by have := Hl.out; omega)
     rw [HU.out] at had
     obtain ⟨⟨k0, k1, k2, k3, k4, k5⟩, _⟩ := six_cells hr2
     clear hP1 hP2 hr hd2 hK1
     go_wp2_with fail
     refine had.mono ?_
     clear had
     rintro e3 w3 ⟨rfl, hP3, hK3⟩
     clear k0 k1 k2 k3 k4 k5
     go_wp2_with fail
     go_meet
     exact ⟨by rw [HL.out, HM.out]; exact hP3, hK2.trans hK3⟩
    | some g =>
     rw [hf] at hfi HM
     have HM : Hid (Sc.modM W x m = ⟨x.file, m.at_, 3, g, -1, 0⟩) := HM
     have hfi : Calls Tryz.prog 173 #[.pointer (some ⟨pg, 0, none⟩), .pointer (some ⟨ib, 0, none⟩)] wc (IdxE (g : Int) wc) := hfi
     have i0 : (0 : Int) ≤ (g : Int) := by omega
     clear hf
     go_wp2_with fail
     refine hfi.mono ?_
     clear hfi
     rintro e2 w2 ⟨rfl, hd2⟩
     have hP2 := hP1.below hd2
     have hr2 := hr.below hd2 hr.lt
     have hK2 := hK1.trans (KeepC.below hd2)
     obtain ⟨⟨k0, k1, k2, k3, k4, k5⟩, y0, y1, y2, y3, y4, y5⟩ := six_cells hr2
     have hdw := Hd.out.trans (hd2.mono Hd.out.size)
     clear hP1 hr hd2 hK1 hP2 hK2
     go_upto_region 5 with fail
     have hr3 := (hr2.set_ 3 (.int .i64 (g : Int))).set_ 5 (.int .i64 0)
     simp at hr3
     have hd3 := (hdw.setCell (p := ⟨r, 3, none⟩) Hrs.out (.int .i64 (g : Int))).setCell (p := ⟨r, 5, none⟩) Hrs.out (.int .i64 0)
     clear k0 k1 k2 k3 k4 k5 y0 y1 y2 y3 y4 y5 hr2 hdw
     generalize (w2.setCell ⟨r, 3, none⟩ (.int .i64 (g : Int))).setCell ⟨r, 5, none⟩ (.int .i64 0) = w3 at *
     have hP3 := HP.out.below hd3
     have hK3 : KeepC [86, 31] w w3 := KeepC.below hd3
     have HU3 : Hid (usC ⟨x.file, m.at_, 3, g, -1, 0⟩ = #[.int .i64 (x.file : Int), .int .i64 (m.at_ : Int), .int .i64 (3 : Int), .int .i64 (g : Int), .int .i64 (-1), .int .i64 (0 : Int)]) := rfl
     have had := sc_add hP3 (u := ⟨x.file, m.at_, 3, g, -1, 0⟩) Hfew.out Hat.out (by have := Hl.out; omega)
     rw [HU3.out] at had
     obtain ⟨⟨k0, k1, k2, k3, k4, k5⟩, _⟩ := six_cells hr3
     clear hP3 hr3 hd3
     go_wp2_with fail
     refine had.mono ?_
     clear had
     rintro e3 w4 ⟨rfl, hP4, hK4⟩
     clear k0 k1 k2 k3 k4 k5
     go_wp2_with fail
     go_meet
     exact ⟨by rw [HL.out, HM.out]; exact hP4, hK3.trans hK4⟩
 case rest =>
  clear hmo hme hal HB HP
  obtain ⟨hP, hK⟩ := hcut
  generalize hu1 : us ++ x.mo.toList.map (Sc.modM W x) = u1 at *
  have Hl1 : Hid (u1.length + 100 ≤ 1000000000) := by
   have h1 := Hl.out
   show _ ≤ _
   rw [← hu1, List.length_append, List.length_map]
   cases x.mo <;> simp <;> omega
  clear hu1 Hl
  have htg := sc_target (h.at_ hP) h.many hx
  obtain ⟨tf, ta, te, hst⟩ : ∃ a b c, Sc.standsM W f k x = (a, b, c) := ⟨_, _, _, rfl⟩
  rw [hst] at htg HE
  generalize htw : Sc.twiceM (Sc.itemsAt W f) k = tw at *
  have HE : Hid (ue = u1 ++ x.me.toList.map (fun m => ⟨x.file, m.at_, 4, tf, ta, if te = 0 ∧ x.has = false ∧ tw = true then 5 else te⟩) ++ x.al.toList.map (fun m => ⟨x.file, m.at_, 5, tf, ta, if tw then 5 else 0⟩)) := HE
  have Htw := Lib.hid htw
  clear hst htw
  unfold ptrV at htg
  go_wp2_with fail
  refine htg.mono ?_
  clear htg
  rintro e2 w2 ⟨rfl, hd2⟩
  have hP2 := hP.below hd2
  have hK2 := hK.trans (KeepC.below hd2)
  clear hP hK hd2
  have hit := (h.at_ hP2).item2 hx
  rw [Htw.out] at hit
  obtain ⟨hFi, _, qb, nv, Ap, cp, ev, mv, me, av, hB, _, _, _, _, _, _, _, hme, _⟩ := hit
  have i11 := hB.cell 11
  have i9 := hB.cell 9
  have i4 := hB.cell 4
  simp [itC] at i11 i9 i4
  have hne := fun w' => (ne_word hme (.tmp 48) (.const (.pointer none)) w').1
  have hne2 := fun w' => (ne_word hme (.tmp 48) (.const (.pointer none)) w').2
  have HB := Lib.hid hB
  have HP := Lib.hid hP2
  clear hB hP2
  go_upto_if 49 with fail
  clear hne hne2 i11
  go_cut [8] (fun _ wc => PgS w0 wc pg mb (.slice A fs.length c) ts is (.slice Ad W.items.length cd) (u1 ++ x.me.toList.map (fun m => ⟨x.file, m.at_, 4, tf, ta, if te = 0 ∧ x.has = false ∧ tw = true then 5 else te⟩)) ∧ KeepC [86, 31] w wc)
  case first =>
   cases hxm : x.me with
   | none =>
    have Hxm := Lib.hid hxm
    clear hxm
    go_wp2_with fail
    go_meet
    exact ⟨by rw [Hxm.out]; simpa using HP.out, hK2⟩
   | some m =>
    rw [hxm] at hme
    obtain ⟨nb, rfl, hFn, hnB⟩ := hme
    have Hat := Lib.hid (Hwat.out m (.inr (.inl hxm)))
    have HL : Hid (u1 ++ x.me.toList.map (fun m => (⟨x.file, m.at_, 4, tf, ta, if te = 0 ∧ x.has = false ∧ tw = true then 5 else te⟩ : Sc.Us)) = u1 ++ [⟨x.file, m.at_, 4, tf, ta, if te = 0 ∧ x.has = false ∧ tw = true then 5 else te⟩]) := by show _ = _; rw [hxm]; rfl
    clear hxm
    generalize u1 ++ x.me.toList.map (fun m => (⟨x.file, m.at_, 4, tf, ta, if te = 0 ∧ x.has = false ∧ tw = true then 5 else te⟩ : Sc.Us)) = u2 at *
    generalize hhs : x.has = hs at *
    have Hhs := Lib.hid hhs
    clear hhs
    obtain ⟨b8, hb8⟩ : ∃ b8 : Bool, b8 = decide (te = 0 ∧ hs = false ∧ tw = true) := ⟨_, rfl⟩
    have Hb8 := Lib.hid hb8
    clear hb8
    go_upto_region 8 with fail
    go_cut [64] (fun s wc => s = .bool b8 ∧ wc = w2)
    case first =>
     by_cases he : te = 0
     ·have e0 : ((te : Int) == 0) = true := by simp [he]
      have He := Lib.hid he
      clear he
      cases hs
      ·cases tw
       ·go_wp2_with fail
        go_meet
        exact ⟨by rw [Hb8.out]; simp, rfl⟩
       ·go_wp2_with fail
        go_meet
        exact ⟨by rw [Hb8.out]; simp [He.out], rfl⟩
      ·go_wp2_with fail
       go_meet
       exact ⟨by rw [Hb8.out]; simp, rfl⟩
     ·have e0 : ((te : Int) == 0) = false := by simp; omega
      have He := Lib.hid he
      clear he
      go_wp2_with fail
      go_meet
      exact ⟨by rw [Hb8.out]; simp [He.out], rfl⟩
    case rest =>
     obtain ⟨rfl, rfl⟩ := hcut
     clear i9 i4
     obtain ⟨er, her⟩ : ∃ er : Nat, er = if te = 0 ∧ hs = false ∧ tw = true then 5 else te := ⟨_, rfl⟩
     have Her := Lib.hid her
     clear her
     go_upto_if 64 with fail
     go_cut [8] (fun s wc' => s = .int .i64 (er : Int) ∧ wc' = wc)
     case first =>
      cases b8
      ·go_wp2_with fail
       go_meet
       refine ⟨?_, rfl⟩
       have h1 := Hb8.out
       rw [Her.out, if_neg (of_decide_eq_false h1.symm)]
      ·go_wp2_with fail
       go_meet
       refine ⟨?_, rfl⟩
       have h1 := Hb8.out
       rw [Her.out, if_pos (of_decide_eq_true h1.symm)]
       rfl
     case rest =>
      obtain ⟨rfl, rfl⟩ := hcut
      have HL : Hid (u2 = u1 ++ [⟨x.file, m.at_, 4, tf, ta, er⟩]) := by show _ = _; rw [HL.out, Her.out]
      go_upto_region 10 with fail
      refine wp_region_G 100 (UsS ib nb x.file m.at_ 11) (by kernel_rfl) ?_
      have hd3 : Below wc.heap.size wc wc.drew := (Below.refl _ _).drew
      have hP3 := HP.out.below hd3
      have hK3 := hK2.drew
      have hB3 := HB.out.drew
      have hnB3 := hnB.drew
      clear hd3 hK2 hnB
      generalize wc.drew = w3 at *
      have hS0 : UsS ib nb x.file m.at_ 11 w3 := ⟨by have := hB3.cell 0; simpa [itC] using this, by have := hB3.cell 11; simpa [itC] using this, by have := hnB3.cell 1; simpa using this⟩
      unfold UsS ptrV at *
      refine wpAnyG_tk 0 hS0 ?_
      simp only [Act.put, List.setIfInBounds_toArray]
      refine wpAnyG_tk 1 hS0 ?_
      simp only [Act.put]
      refine wpAnyG_tk 2 hS0 ?_
      simp only [Act.put]
      refine wpAnyG_tk 3 hS0 ?_
      simp only [Act.put]
      refine wpAnyG_tk 4 hS0 ?_
      simp only [Act.put]
      refine wpAnyG_tk 5 hS0 ?_
      simp only [Act.put]
      refine wpAnyG_tk 6 hS0 ?_
      simp only [Act.put]
      refine wpAnyG_tk 7 hS0 ?_
      simp only [Act.put]
      refine wpAnyG_tk 8 hS0 ?_
      simp only [Act.put]
      refine wpAnyG_tk 9 hS0 ?_
      simp only [Act.put]
      refine wpAnyG_tk 10 hS0 ?_
      simp only [Act.put]
      refine wpAnyG_tk 11 hS0 ?_
      simp only [Act.put]
      refine wpAnyG_tk 12 hS0 ?_
      simp only [Act.put]
      refine wpAnyG_tk 13 hS0 ?_
      simp only [Act.put]
      refine wpAnyG_tk 14 hS0 ?_
      simp only [Act.put]
      refine wpAnyG_tk 15 hS0 ?_
      simp only [Act.put]
      clear hS0
      have HU : Hid (usC ⟨x.file, m.at_, 4, tf, ta, er⟩ = #[.int .i64 (x.file : Int), .int .i64 (m.at_ : Int), .int .i64 (4 : Int), .int .i64 tf, .int .i64 ta, .int .i64 (er : Int)]) := rfl
      have had := sc_add hP3 (u := ⟨x.file, m.at_, 4, tf, ta, er⟩) Hfew.out Hat.out (by have := Hl1.out; omega)
      rw [HU.out] at had
      refine wpAnyG_on 16 fun C hC => ?_
      go_simp
      refine had.mono ?_
      clear had
      rintro e4 w4 ⟨rfl, hP4, hK4⟩
      have hB4 := hB3.keepC hK4 (by decide)
      have hnB4 := hnB3.keepC hK4 (by decide)
      refine hC.out _ _ (fun _ => ⟨by have := hB4.cell 0; simpa [itC] using this, by have := hB4.cell 11; simpa [itC] using this, by have := hnB4.cell 1; simpa using this⟩) ?_
      clear hC C hP3 hB3 hnB3 hB4 hnB4
      refine wpAnyG_done (by kernel_rfl) ?_ _
      go_wp2_with fail
      go_meet
      exact ⟨by rw [HL.out]; exact hP4, hK3.trans hK4⟩
  case rest =>
   clear hme HB HP hK2 i9 i4
   obtain ⟨hP, hK⟩ := hcut
   generalize hu2 : u1 ++ x.me.toList.map (fun m => (⟨x.file, m.at_, 4, tf, ta, if te = 0 ∧ x.has = false ∧ tw = true then 5 else te⟩ : Sc.Us)) = u2 at *
   have Hl2 : Hid (u2.length + 10 ≤ 1000000000) := by
    have h1 := Hl1.out
    show _ ≤ _
    rw [← hu2, List.length_append, List.length_map]
    cases x.me <;> simp <;> omega
   clear hu2 Hl1
   have hit := (h.at_ hP).item2 hx
   rw [Htw.out] at hit
   obtain ⟨hFi, _, qb, nv, Ap, cp, ev, mv, me, av, hB, _, _, _, _, _, _, _, _, hal⟩ := hit
   have i12 := hB.cell 12
   have i4 := hB.cell 4
   simp [itC] at i12 i4
   have hne := fun w' => (ne_word hal (.tmp 85) (.const (.pointer none)) w').1
   have hne2 := fun w' => (ne_word hal (.tmp 85) (.const (.pointer none)) w').2
   have HB := Lib.hid hB
   have HP := Lib.hid hP
   clear hB hP
   go_upto_if 86 with fail
   clear hne hne2
   cases hxm : x.al with
   | none =>
    have Hxm := Lib.hid hxm
    clear hxm
    go_wp2_with fail
    go_end0
    refine ⟨rfl, ?_, hK⟩
    rw [HE.out, Hxm.out]
    simpa using HP.out
   | some m =>
    rw [hxm] at hal
    obtain ⟨nb, rfl, hFn, hnB⟩ := hal
    have Hat := Lib.hid (Hwat.out m (.inr (.inr hxm)))
    have HL : Hid (ue = u2 ++ [⟨x.file, m.at_, 5, tf, ta, if tw then 5 else 0⟩]) := by show _ = _; rw [HE.out, hxm]; rfl
    clear hxm HE
    generalize wc = wz at *
    go_upto_region 12 with fail
    go_cut [9] (fun s9 wx => ∃ r, s9 = .pointer (some ⟨r, 0, none⟩) ∧ Blk wx r 31 #[.int .i64 (x.file : Int), .int .i64 (m.at_ : Int), .int .i64 (5 : Int), .int .i64 tf, .int .i64 ta, .int .i64 (0 : Int)] ∧ wz.heap.size ≤ r ∧ Below wz.heap.size wz wx)
    case first =>
     refine wp_region_G 15 (UsS ib nb x.file m.at_ 12) (by kernel_rfl) ?_
     have hd0 : Below wz.heap.size wz wz.drew := (Below.refl _ _).drew
     have hB2 := HB.out.drew
     have hnB2 := hnB.drew
     have hsz : wz.heap.size ≤ wz.drew.heap.size := Nat.le_refl _
     generalize wz.drew = w3 at *
     have hS0 : UsS ib nb x.file m.at_ 12 w3 := ⟨by have := hB2.cell 0; simpa [itC] using this, by have := hB2.cell 12; simpa [itC] using this, by have := hnB2.cell 1; simpa using this⟩
     unfold UsS ptrV at *
     have hd4 : Below w3.heap.size w3 (w3.alloc (.cells zero6 31)) := (Below.refl _ _).alloc (Nat.le_refl _) _
     have hn := Blk.new w3 31 zero6
     have hB4 := hB2.below hd4 hB2.lt
     have hnB4 := hnB2.below hd4 hnB2.lt
     have hd4' := hd0.trans (hd4.mono hsz)
     have HS4 : Hid (UsS ib nb x.file m.at_ 12 (w3.alloc (.cells zero6 31))) := ⟨by have := hB4.cell 0; simpa [itC] using this, by have := hB4.cell 12; simpa [itC] using this, by have := hnB4.cell 1; simpa using this⟩
     have Hr : Hid (wz.heap.size ≤ w3.heap.size) := hsz
     unfold UsS ptrV at HS4
     unfold zero6 at *
     clear i4 i12 hd0 hd4 hB2 hnB2 hB4 hnB4 hsz
     refine wpAnyG_tk 0 hS0 ?_
     simp only [Act.put, List.setIfInBounds_toArray]
     refine wpAnyG_tk 1 hS0 ?_
     simp only [Act.put]
     refine wpAnyG_tk 2 hS0 ?_
     simp only [Act.put]
     refine wpAnyG_tk 3 hS0 ?_
     simp only [Act.put]
     refine wpAnyG_tk 4 hS0 ?_
     simp only [Act.put]
     refine wpAnyG_tk 5 hS0 ?_
     simp only [Act.put]
     refine wpAnyG_tk 6 hS0 ?_
     simp only [Act.put]
     refine wpAnyG_tk 7 hS0 ?_
     simp only [Act.put]
     refine wpAnyG_tk 8 hS0 ?_
     simp only [Act.put]
     refine wpAnyG_tk 9 hS0 ?_
     simp only [Act.put]
     refine wpAnyG_tk 10 hS0 ?_
     simp only [Act.put]
     refine wpAnyG_tk 11 hS0 ?_
     simp only [Act.put]
     refine wpAnyG_tk 12 hS0 ?_
     simp only [Act.put]
     refine wpAnyG_tk 13 hS0 ?_
     simp only [Act.put]
     clear hS0
     refine wpAnyG_on 14 fun C hC => ?_
     go_simp
     refine hC.out _ _ (fun _ => HS4.out) ?_
     clear hC C
     obtain ⟨r, hr0⟩ : ∃ r, r = w3.heap.size := ⟨_, rfl⟩
     rw [← hr0] at hn Hr ⊢
     clear hr0
     generalize w3.alloc (.cells #[.int .i64 0, .int .i64 0, .int .i64 0, .int .i64 0, .int .i64 0, .int .i64 0] 31) = w4 at *
     obtain ⟨⟨k0, k1, k2, k3, k4, k5⟩, y0, y1, y2, y3, y4, y5⟩ := six_cells hn
     have hb := six_blk hn (.int .i64 (x.file : Int)) (.int .i64 (m.at_ : Int)) (.int .i64 (5 : Int)) (.int .i64 tf) (.int .i64 ta) (.int .i64 (0 : Int))
     have hb2 := six_below hd4' Hr.out (.int .i64 (x.file : Int)) (.int .i64 (m.at_ : Int)) (.int .i64 (5 : Int)) (.int .i64 tf) (.int .i64 ta) (.int .i64 (0 : Int))
     refine wpAnyG_on 15 fun C hC => ?_
     go_simp
     refine hC.out _ _ (fun h => absurd rfl h) ?_
     clear hC C
     refine wpAnyG_done (by kernel_rfl) ?_ _
     clear k0 k1 k2 k3 k4 k5 y0 y1 y2 y3 y4 y5 hn hd4'
     go_wp2_with fail
     go_meet
     exact ⟨r, rfl, hb, Hr.out, hb2⟩
    case rest =>
     clear i4 i12
     obtain ⟨r, rfl, hr, hrs, hd⟩ := hcut
     have hB5 := HB.out.below hd HB.out.lt
     have i4 := hB5.cell 4
     simp [itC] at i4
     have Hrs := Lib.hid hrs
     have Hd := Lib.hid hd
     clear hB5 hrs hd hnB
     cases tw with
     | false =>
      have hP3 := HP.out.below Hd.out
      have hK3 := hK.trans (KeepC.below Hd.out)
      have HU3 : Hid (usC ⟨x.file, m.at_, 5, tf, ta, 0⟩ = #[.int .i64 (x.file : Int), .int .i64 (m.at_ : Int), .int .i64 (5 : Int), .int .i64 tf, .int .i64 ta, .int .i64 (0 : Int)]) := rfl
      have had := sc_add hP3 (u := ⟨x.file, m.at_, 5, tf, ta, 0⟩) Hfew.out Hat.out (by have := Hl2.out; omega)
      rw [HU3.out] at had
      obtain ⟨⟨k0, k1, k2, k3, k4, k5⟩, _⟩ := six_cells hr
      clear hP3 hr hK
      go_wp2_with fail
      refine had.mono ?_
      clear had
      rintro e3 w4 ⟨rfl, hP4, hK4⟩
      clear k0 k1 k2 k3 k4 k5 i4
      go_wp2_with fail
      go_end0
      exact ⟨rfl, by rw [HL.out]; exact hP4, hK3.trans hK4⟩
     | true =>
      obtain ⟨⟨k0, k1, k2, k3, k4, k5⟩, y0, y1, y2, y3, y4, y5⟩ := six_cells hr
      go_upto_region 15 with fail
      have hr3 := hr.set_ 5 (.int .i64 5)
      simp at hr3
      have hd3 := Hd.out.setCell (p := ⟨r, 5, none⟩) Hrs.out (.int .i64 5)
      clear k0 k1 k2 k3 k4 k5 y0 y1 y2 y3 y4 y5 hr i4
      generalize wc.setCell ⟨r, 5, none⟩ (.int .i64 5) = w3 at *
      have hP3 := HP.out.below hd3
      have hK3 := hK.trans (KeepC.below hd3)
      have HU3 : Hid (usC ⟨x.file, m.at_, 5, tf, ta, 5⟩ = #[.int .i64 (x.file : Int), .int .i64 (m.at_ : Int), .int .i64 (5 : Int), .int .i64 tf, .int .i64 ta, .int .i64 (5 : Int)]) := rfl
      have had := sc_add hP3 (u := ⟨x.file, m.at_, 5, tf, ta, 5⟩) Hfew.out Hat.out (by have := Hl2.out; omega)
      rw [HU3.out] at had
      obtain ⟨⟨k0, k1, k2, k3, k4, k5⟩, _⟩ := six_cells hr3
      clear hP3 hr3 hd3 hK
      go_wp2_with fail
      refine had.mono ?_
      clear had
      rintro e3 w4 ⟨rfl, hP4, hK4⟩
      clear k0 k1 k2 k3 k4 k5
      go_wp2_with fail
      go_end0
      exact ⟨rfl, by rw [HL.out]; exact hP4, hK3.trans hK4⟩
end
end Go.Proofs.YtcjjfeephaddcaaGreatDoor
