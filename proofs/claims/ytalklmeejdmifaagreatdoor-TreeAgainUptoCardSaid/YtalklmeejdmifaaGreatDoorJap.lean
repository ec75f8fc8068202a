/-
  JOINED of the texts LZ UK
-/
import Derived.Test.YtalklmeejdmifaaGreatDoorJao
import Derived.Test.YtalklmeejdmifaaGreatDoorJal
namespace Go.Proofs.YtalklmeejdmifaaGreatDoor
open Go.RowKit
theorem results_tmp4 {fn : Func} {t u v x : Tmp} (h : fn.results = #[.tmp t, .tmp u, .tmp v, .tmp x]) (tmps : Array Value) (P : Program) (w : World) :
  (results fn tmps).run P w = .ok (.tuple #[tmps.getD t undef, tmps.getD u undef, tmps.getD v undef, tmps.getD x undef]) w := by
 simp [results, h]
set_option maxHeartbeats 2000000 in
set_option maxRecDepth 100000 in
theorem kept_bad (g : Nat) (f t : Int) (s ins : Bs) (T : List Tk) (w : World) (hd : DocAt w g s T) (hb : ¬ (0 ≤ f ∧ f ≤ t ∧ t ≤ s.length)) :
  Calls Tryz.prog 54 #[.pointer (some ⟨g, 0, none⟩), .agg #[.int .i64 f, .int .i64 t, .string ⟨ins.toArray⟩]] w fun e w' =>
   e = .returned (.tuple #[.pointer none, .int .i64 0, .int .i64 0, .iface 48 (.int .i64 1)]) ∧ Below w.heap.size w w' := by
 have hbA : Below w.heap.size w (w.alloc (.cells #[.int .i64 f, .int .i64 t, .string ⟨ins.toArray⟩] 39)) := (Below.refl _ _).alloc (Nat.le_refl _) _
 have hd1 := hd.below hbA
 obtain ⟨A, c, h1, h2, h3, h4⟩ := hd1
 have c0 := h1.cell 0
 simp at c0
 have hw : f < 0 ∨ (¬ f < 0 ∧ t < f) ∨ (¬ f < 0 ∧ ¬ t < f ∧ (s.length : Int) < t) := by omega
 clear hb
 rcases hw with e1 | ⟨e1, e2⟩ | ⟨e1, e2, e3⟩
 ·have d1 : decide (f < 0) = true := by simpa using e1
  go_enter Tryz.func54, Tryz.ntmps54
  go_wp2_with fail
  go_quiet (fail)
  go_wp2_with fail
  refine bodyPost_ret (results_tmp4 rfl _ _ _) rfl ?_
  exact ⟨rfl, below_drewN hbA _⟩
 ·have d1 : decide (f < 0) = false := by simpa using e1
  have d2 : decide (t < f) = true := by simpa using e2
  go_enter Tryz.func54, Tryz.ntmps54
  go_wp2_with fail
  go_quiet (fail)
  go_wp2_with fail
  refine bodyPost_ret (results_tmp4 rfl _ _ _) rfl ?_
  exact ⟨rfl, below_drewN hbA _⟩
 ·have d1 : decide (f < 0) = false := by simpa using e1
  have d2 : decide (t < f) = false := by simpa using e2
  have d3 : decide ((s.length : Int) < t) = true := by simpa using e3
  go_enter Tryz.func54, Tryz.ntmps54
  go_wp2_with fail
  go_quiet (fail)
  go_wp2_with fail
  refine bodyPost_ret (results_tmp4 rfl _ _ _) rfl ?_
  exact ⟨rfl, below_drewN hbA _⟩
structure OutW (w wr : World) (g gs go : Nat) (dc sp : Array Value) (A : Option Addr) (T : List Tk) (now : Bs) (v : Value) (xs : List Tk) : Prop where
 old : Blk wr g 179 dc
 rd : Rd wr w.heap.size 3 A T.length (tksC T)
 spn : Blk wr gs 39 sp
 doc : Blk wr go 179 #[.string ⟨now.toArray⟩, v]
 own : wr.ownsRow (go + 1) 131 3 v xs.length (tksC xs)
 bel : Below w.heap.size w wr
 lt : g < w.heap.size
 lo : w.heap.size ≤ gs
 lg : gs < go
section
variable {w wr w' : World} {g gs go : Nat} {dc sp : Array Value} {A : Option Addr} {T : List Tk} {now : Bs} {v : Value} {xs : List Tk}
theorem OutW.below (h : OutW w wr g gs go dc sp A T now v xs) (hb : Below wr.heap.size wr w') : OutW w w' g gs go dc sp A T now v xs :=
 ⟨h.old.below hb h.old.lt, h.rd.below (hb.mono h.bel.size), h.spn.below hb h.spn.lt, h.doc.below hb h.doc.lt, own_of_block h.own fun b hbk => hb.block b (h.own.lt b hbk).2, h.bel.trans (hb.mono h.bel.size), h.lt, h.lo, h.lg⟩
theorem OutW.put (h : OutW w wr g gs go dc sp A T now v xs) {ys : List Tk} {v' : Value} (hown : wr.ownsRow (go + 1) 131 3 v' ys.length (tksC ys)) : OutW w (wr.setCell ⟨go, 1, none⟩ v') g gs go dc sp A T now v' ys := by
 have hlt := h.lt
 have hlo := h.lo
 have hlg := h.lg
 have hb : Below w.heap.size wr (wr.setCell ⟨go, 1, none⟩ v') := (Below.refl _ _).setCell (p := ⟨go, 1, none⟩) (by simp; omega) v'
 refine ⟨h.old.below hb hlt, h.rd.below hb, h.spn.far (by simp; omega) _, h.doc.set_ 1 v', ?_, h.bel.trans hb, hlt, hlo, hlg⟩
 exact own_of_block hown fun b hbk => Below.heap_setCell _ _ _ _ fun e => by
  have := (hown.lt b hbk).1
  simp at e; omega
theorem OutW.push (h : OutW w wr g gs go dc sp A T now v xs) {x : Tk} {w5 : World} {v' : Value} {o : Obj} (hown : w5.ownsRow (go + 1) 131 3 v' (xs.length + 1) (tksC xs ++ tkC x)) (hgrow : (wr.alloc o).grownBy w5 v.ownBlock) :
  OutW w (w5.setCell ⟨go, 1, none⟩ v') g gs go dc sp A T now v' (xs ++ [x]) := by
 have hlt := h.lt
 have hlo := h.lo
 have hlg := h.lg
 have hsz := h.bel.size
 have hn1 : some gs ≠ v.ownBlock := fun e => by have := (h.own.lt gs e.symm).1; omega
 have hn2 : some go ≠ v.ownBlock := fun e => by have := (h.own.lt go e.symm).1; omega
 have hd := (h.doc.alloc o).grown hgrow hn2
 have hb4 : Below w.heap.size wr w5 := ((Below.refl _ _).alloc hsz o).grown hgrow (by simp; omega) (fun g hg => by have := (h.own.lt g hg).1; omega)
 have hb5 : Below w.heap.size wr (w5.setCell ⟨go, 1, none⟩ v') := hb4.setCell (p := ⟨go, 1, none⟩) (by simp; omega) v'
 refine ⟨h.old.below hb5 hlt, h.rd.below hb5, ((h.spn.alloc o).grown hgrow hn1).far (by simp; omega) _, hd.set_ 1 v', ?_, h.bel.trans hb5, hlt, hlo, hlg⟩
 rw [tksC_snoc, List.length_append]
 exact own_of_block hown fun b hbk => Below.heap_setCell _ _ _ _ fun e => by
  have := (hown.lt b hbk).1
  simp at e; omega
end
theorem Rd.tkDrop {w : World} {B : Nat} {ad : Addr} {T : List Tk} (h : Rd w B 3 (some ad) T.length (tksC T)) (k : Nat) : Rd w B 3 (some (ad.add (k * 3))) (T.drop k).length (tksC (T.drop k)) := by
 refine ⟨tksC_len _, fun hn => ?_⟩
 rw [List.length_drop] at hn
 obtain ⟨b, o, e, hb, hc⟩ := h.2 (by omega)
 injection e with e
 subst e
 refine ⟨b, o + k * 3, ?_, hb, fun j u hu => ?_⟩
 ·unfold Addr.add
  split
  ·rename_i h0
   rw [h0]; rfl
  ·rfl
 ·rw [tksC_drop, List.getElem?_drop] at hu
  have := hc _ _ hu
  rwa [Nat.add_assoc]
theorem Rd.tkNone {w : World} {B : Nat} {A : Option Addr} {T : List Tk} {k : Nat} (h : T.length ≤ k) : Rd w B 3 A (T.drop k).length (tksC (T.drop k)) := by
 rw [List.drop_of_length_le h]
 exact ⟨rfl, fun h => absurd h (by simp)⟩
set_option maxHeartbeats 4000000 in
set_option maxRecDepth 100000 in
theorem kept_walk (g : Nat) (s : Bs) (frm til : Nat) (ins : Bs) (m : Int) (w : World) (hM : MaxL w m) (hT : T8 w) (hW : WordsIs w) (hd : DocAt w g s (Lx.tokR 0 s)) (h1 : frm ≤ til) (h2 : til ≤ s.length) (hl : s.length + ins.length ≤ 4194304) :
  Calls Tryz.prog 54 #[.pointer (some ⟨g, 0, none⟩), .agg #[.int .i64 frm, .int .i64 til, .string ⟨ins.toArray⟩]] w fun e w' =>
   ∃ go, e = .returned (.tuple #[.pointer (some ⟨go, 0, none⟩), .int .i64 (Lx.headM (Lx.tokR 0 s) frm), .int .i64 (Lx.behindM s frm til ins), .nilIface]) ∧ w.heap.size ≤ go ∧ DocAt w' go (Lx.nowM s frm til ins) (Lx.tokR 0 (Lx.nowM s frm til ins)) ∧ Below w.heap.size w w' := by
 obtain ⟨i0, ji, jz0, jz1, jz2⟩ := info_parts infoTk
 have hTl := Lx.tokR_length 0 s
 have hn := now_data s ins frm til h2
 have hnl : Hid ((Lx.nowM s frm til ins).length = frm + ins.length + (s.length - til)) := Lx.now_len s frm til ins h1 h2
 have hnz : (Lx.nowM s frm til ins).length ≤ 4194304 := by rw [hnl.out]; omega
 have H1 := Lib.hid h1
 have H2 := Lib.hid h2
 have Hh : Hid (∀ k, k ≤ (Lx.tokR 0 s).length → (∀ j (hj : j < (Lx.tokR 0 s).length), j < k → (Lx.tokR 0 s)[j].2.1 + (Lx.tokR 0 s)[j].2.2 + 4 ≤ frm) → (∀ h : k < (Lx.tokR 0 s).length, ¬ (Lx.tokR 0 s)[k].2.1 + (Lx.tokR 0 s)[k].2.2 + 4 ≤ frm) → Lx.headM (Lx.tokR 0 s) frm = k) := Lx.headM_eq (Lx.tokR 0 s) frm
 have Hz : Hid (Lx.headM (Lx.tokR 0 s) frm = 0 → Lx.at0M s frm = 0) := Lx.at0_zero s frm
 have Hs : Hid (∀ k, Lx.headM (Lx.tokR 0 s) frm = k + 1 → ∃ hk : k < (Lx.tokR 0 s).length, Lx.at0M s frm = (Lx.tokR 0 s)[k].2.1 + (Lx.tokR 0 s)[k].2.2) := Lx.at0_succ s frm
 have hhl := Lx.headM_le (Lx.tokR 0 s) frm
 have HKP : Hid (Lx.Kp s frm til ins (Lx.at0M s frm) (Lx.headM (Lx.tokR 0 s) frm) []) := Lx.Kp.start h1 h2
 have Htk : Hid (∀ j (hj : j < (Lx.tokR 0 s).length), (Lx.tokR 0 s)[j].2.1 + (Lx.tokR 0 s)[j].2.2 ≤ s.length) := Lx.tok_end s
 have hb0 : Below w.heap.size w (w.alloc (.cells #[.int .i64 frm, .int .i64 til, .string ⟨ins.toArray⟩] 39)) := (Below.refl _ _).alloc (Nat.le_refl _) _
 have hB0 : Blk (w.alloc (.cells #[.int .i64 frm, .int .i64 til, .string ⟨ins.toArray⟩] 39)) w.heap.size 39 #[.int .i64 frm, .int .i64 til, .string ⟨ins.toArray⟩] := Blk.new _ _ _
 have hd0 := hd.below hb0
 have hgl : g < w.heap.size := by obtain ⟨_, _, h, _⟩ := hd; exact h.lt
 obtain ⟨A, c, hD, hAc, hcap, hrd0⟩ := hd
 generalize hH : Lx.headM (Lx.tokR 0 s) frm = H at *
 generalize hA0 : Lx.at0M s frm = a0 at *
 generalize hTT : Lx.tokR 0 s = T at *
 generalize hnow : Lx.nowM s frm til ins = now at *
 have HA0 := Lib.hid hA0
 have HT := Lib.hid hTT
 have Hnow := Lib.hid hnow
 have HH0 := Lib.hid hH
 clear hA0 hTT hnow hH
 have hD1 := hD.below hb0 hgl
 have q0 := hD1.cell 0
 have q1 := hD1.cell 1
 simp at q0 q1
 have i1 : (0 : Int) ≤ (frm : Int) := by omega
 have i2 : (frm : Int) ≤ (s.length : Int) := by omega
 have i3 : (0 : Int) ≤ (til : Int) := by omega
 have i4 : (til : Int) ≤ (s.length : Int) := by omega
 have d1 : decide ((frm : Int) < 0) = false := by simp
 have d2 : decide ((til : Int) < frm) = false := by simp; omega
 have d3 : decide ((s.length : Int) < til) = false := by simp; omega
 go_enter Tryz.func54, Tryz.ntmps54
 go_wp2_with fail
 go_quiet (fail)
 go_wp2_with fail
 clear d1 d2 d3
 have hb0' : Below w.heap.size w ((w.alloc (.cells #[.int .i64 frm, .int .i64 til, .string ⟨ins.toArray⟩] 39)).drewN nq) := below_drewN hb0 nq
 have hB0' : Blk ((w.alloc (.cells #[.int .i64 frm, .int .i64 til, .string ⟨ins.toArray⟩] 39)).drewN nq) w.heap.size 39 #[.int .i64 frm, .int .i64 til, .string ⟨ins.toArray⟩] := hB0
 have hD' : Blk ((w.alloc (.cells #[.int .i64 frm, .int .i64 til, .string ⟨ins.toArray⟩] 39)).drewN nq) g 179 #[.string ⟨s.toArray⟩, .slice A T.length c] := hD1
 have hs0 : ((w.alloc (.cells #[.int .i64 frm, .int .i64 til, .string ⟨ins.toArray⟩] 39)).drewN nq).heap.size = w.heap.size + 1 := by simp
 generalize (w.alloc (.cells #[.int .i64 frm, .int .i64 til, .string ⟨ins.toArray⟩] 39)).drewN nq = w0 at *
 obtain ⟨gs, hgs⟩ : ∃ gs, gs = w.heap.size := ⟨_, rfl⟩
 rw [← hgs] at hB0' hs0 ⊢
 have Hgs := Lib.hid hgs
 clear hgs
 clear hb0 hB0 hd0 hD1 q0 q1
 have q0 := hD'.cell 0
 have q1 := hD'.cell 1
 have p0 := hB0'.cell 0
 have p1 := hB0'.cell 1
 have p2 := hB0'.cell 2
 simp at q0 q1 p0 p1 p2
 have e1 : ¬ 9223372036854775807 < frm + ins.length := by omega
 have e2 : ¬ 9223372036854775807 < frm + ins.length + (s.length - til) := by omega
 have hfs : frm ≤ s.length := by omega
 go_still_tail 19, (by kernel_rfl)
 change wpList _ _ _ _ _ w0.drew
 go_upto_block 0 with fail
 have HO : OutW w (w0.alloc (.cells #[.string ⟨now.toArray⟩, .slice none 0 0] 179)).drew g gs (gs + 1) #[.string ⟨s.toArray⟩, .slice A T.length c] #[.int .i64 frm, .int .i64 til, .string ⟨ins.toArray⟩] A T now (.slice none 0 0) [] := by
  have hgs := Hgs.out
  have hbb := (hb0'.alloc hb0'.size (.cells #[.string ⟨now.toArray⟩, .slice none 0 0] 179)).drew
  refine ⟨hD'.alloc _, hrd0.below hbb, hB0'.alloc _, ?_, World.ownsRow_nil _ _ _ _, hbb, hgl, by omega, by omega⟩
  have := Blk.new w0 179 #[.string ⟨now.toArray⟩, .slice none 0 0]
  rw [hs0] at this
  exact this
 clear hB0' hD' hb0' q0 q1 p0 p1 p2 hs0 hfs e1 e2
 generalize (w0.alloc (.cells #[.string ⟨now.toArray⟩, .slice none 0 0] 179)).drew = w2 at *
 obtain ⟨go, hgo⟩ : ∃ go, go = gs + 1 := ⟨_, rfl⟩
 rw [← hgo] at HO ⊢
 have HgO := Lib.hid hgo
 clear hgo
 generalize hdc : (#[.string ⟨s.toArray⟩, .slice A T.length c] : Array Value) = dc at *
 generalize hsp : (#[.int .i64 frm, .int .i64 til, .string ⟨ins.toArray⟩] : Array Value) = sp at *
 have Hdc := Lib.hid hdc.symm
 have Hsp := Lib.hid hsp.symm
 clear hdc hsp
 go_cut [5] (fun v wc => v = .int .i64 H ∧ OutW w wc g gs go dc sp A T now (.slice none 0 0) [])
 case first =>
  as_aux_lemma =>
   go_wp2_with fail
   go_loopw [5] (fun i wr => ∃ k : Nat, i = .int .i64 k ∧ k ≤ T.length ∧ OutW w wr g gs go dc sp A T now (.slice none 0 0) [] ∧ Hid (∀ j (hj : j < T.length), j < k → T[j].2.1 + T[j].2.2 + 4 ≤ frm)) (fun i _ => T.length - (intOf i).toNat)
   case atStart => exact ⟨0, rfl, Nat.zero_le _, HO, fun _ _ h => by omega⟩
   case round =>
    clear HO
    obtain ⟨k, rfl, hk, HO, HK⟩ := hrel
    have j1 : (0 : Int) ≤ (k : Int) := by omega
    have q1 := HO.old.cell 1
    have p0 := HO.spn.cell 0
    rw [Hdc.out] at q1
    rw [Hsp.out] at p0
    simp at q1 p0
    by_cases hlt : k < T.length
    ·obtain ⟨b, o, rfl, hbB, c0, c1, c2⟩ := Rd.tk HO.rd hlt
     have htk := Htk.out k hlt
     have j2 : (k : Int) < (T.length : Int) := by omega
     have d1 : decide (k < T.length) = true := by simp [hlt]
     by_cases hc : T[k].2.1 + T[k].2.2 + 4 ≤ frm
     ·have HK2 : Hid (∀ j (hj : j < T.length), j < k + 1 → T[j].2.1 + T[j].2.2 + 4 ≤ frm) := fun j hj hjk => by
       by_cases he : j = k
       ·subst he; exact hc
       ·exact HK.out j hj (by omega)
      generalize T[k] = x at *
      have d2 : decide ((x.2.1 : Int) + x.2.2 + 4 ≤ frm) = true := by simp; omega
      go_wp2_with fail
      go_quiet (fail)
      go_wp2_with fail
      go_roundw
      case rel => exact ⟨k + 1, by go_num, by omega, HO.below (below_drewN (Below.refl _ _) _), HK2.out⟩
      case measure => simp [intOf]; omega
     ·have HH := Hh.out k (by omega) HK.out (fun _ => hc)
      generalize T[k] = x at *
      have d2 : decide ((x.2.1 : Int) + x.2.2 + 4 ≤ frm) = false := by simp; omega
      have HH := Lib.hid HH
      go_wp2_with fail
      go_quiet (fail)
      go_wp2_with fail
      go_meet
      exact ⟨by rw [HH.out], HO.below (below_drewN (Below.refl _ _) _)⟩
    ·have HH := Lib.hid (Hh.out k hk HK.out (fun h => absurd h hlt))
     have d1 : decide (k < T.length) = false := by simp; omega
     go_wp2_with fail
     go_quiet (fail)
     go_wp2_with fail
     go_meet
     exact ⟨by rw [HH.out], HO.below (below_drewN (Below.refl _ _) _)⟩
 case rest =>
  clear HO
  obtain ⟨rfl, HO2⟩ := hcut
  as_aux_lemma =>
   go_upto_region 7 with fail
   go_cut [] (fun wc => ∃ v, OutW w wc g gs go dc sp A T now v (T.take H))
   case first =>
    as_aux_lemma =>
     have q1 := HO2.old.cell 1
     have o1 := HO2.doc.cell 1
     have of1 := HO2.doc.frozen 1
     rw [Hdc.out] at q1
     simp at q1 o1
     have hlen : (T.take H).length = H := by rw [List.length_take]; omega
     have htk : TkAt wc A (T.take H) := by
      refine ⟨fun hA => ?_, fun ad hA j u hu => ?_⟩
      ·have := (HO2.rd.tkAt).1 hA
       rw [this]; simp
      ·refine (HO2.rd.tkAt).2 ad hA j u ?_
       rw [tksC_take, List.getElem?_take] at hu
       split at hu
       ·exact hu
       ·cases hu
     have hcl := fun (cc : Nat) (hc : A = none → cc = 0) => tclone_walk A cc (T.take H) wc htk hc (by rw [hlen]; omega)
     rw [hlen] at hcl
     have j1 : (0 : Int) ≤ (H : Int) := by omega
     have j2 : (H : Int) ≤ (T.length : Int) := by omega
     have j3 : H ≤ c := by omega
     cases A with
     | none =>
      have h0 := hAc rfl
      subst h0
      obtain rfl : H = 0 := by omega
      go_wp2_with fail
      refine (hcl 0 (fun _ => rfl)).mono ?_
      rintro e w4 ⟨v, rfl, hown, hb4⟩
      obtain ⟨Av, cv, rfl⟩ := own_form hown
      have HO4 := HO2.below hb4
      have HO5 := HO4.put (ys := T.take 0) (v' := .slice Av 0 cv) (by rw [hlen]; exact own_mono hown HO2.doc.lt)
      have o1 := HO4.doc.cell 1
      have of1 := HO4.doc.frozen 1
      simp at o1
      clear HO4 hcl HO2 hown hb4 q1
      go_wp2_with fail
      go_meet
      exact ⟨_, HO5⟩
     | some ad =>
      go_wp2_with fail
      refine (hcl c (fun h => by cases h)).mono ?_
      rintro e w4 ⟨v, rfl, hown, hb4⟩
      obtain ⟨Av, cv, rfl⟩ := own_form hown
      have HO4 := HO2.below hb4
      have HO5 := HO4.put (ys := T.take H) (v' := .slice Av H cv) (by rw [hlen]; exact own_mono hown HO2.doc.lt)
      have o1 := HO4.doc.cell 1
      have of1 := HO4.doc.frozen 1
      simp at o1
      clear HO4 hcl HO2 hown hb4 q1
      go_wp2_with fail
      go_meet
      exact ⟨_, HO5⟩
   case rest =>
    clear HO2
    obtain ⟨v, HO3⟩ := hcut
    as_aux_lemma =>
     go_upto_if 106 with fail
     go_cut [9] (fun av wc' => av = .int .i64 a0 ∧ OutW w wc' g gs go dc sp A T now v (T.take H))
     case first =>
      as_aux_lemma =>
       by_cases h0 : H = 0
       ·subst h0
        have Ha := Lib.hid (Hz.out rfl)
        go_wp2_with fail
        go_meet
        exact ⟨by rw [Ha.out]; rfl, HO3⟩
       ·obtain ⟨h, rfl⟩ : ∃ h, H = h + 1 := ⟨H - 1, by omega⟩
        obtain ⟨hlt, ha⟩ := Hs.out h rfl
        obtain ⟨b, o, rfl, hbB, c0, c1, c2⟩ := Rd.tk HO3.rd hlt
        have q1 := HO3.old.cell 1
        rw [Hdc.out] at q1
        simp at q1
        have htk := Htk.out h hlt
        have Ha := Lib.hid ha
        clear ha
        generalize T[h] = x at *
        have j1 : (0 : Int) ≤ (h : Int) := by omega
        have j2 : (h : Int) < (T.length : Int) := by omega
        go_wp2_with fail
        go_quiet (fail)
        go_wp2_with fail
        go_meet
        exact ⟨by rw [Ha.out]; rfl, HO3.below (below_drewN (Below.refl _ _) _)⟩
     case rest =>
      clear HO3
      obtain ⟨rfl, HO4⟩ := hcut
      clear Hh Hz Hs
      as_aux_lemma =>
       have HO5 : OutW w wc g gs go dc sp A T now v (T.take H ++ []) := by rw [List.append_nil]; exact HO4
       clear HO4
       go_upto_block 2 with fail
       go_cut [6, 9] (fun tv av wc => ∃ (a tail : Nat) (acc : List Tk) (v : Value), tv = .int .i64 tail ∧ av = .int .i64 a ∧ OutW w wc g gs go dc sp A T now v (T.take H ++ acc) ∧ Hid (Lx.tokR 0 now = T.take H ++ acc ++ (T.drop tail).map (fun t => (t.1, t.2.1 + (frm + ins.length) - til, t.2.2))) ∧ Hid (Lx.behindM s frm til ins = tail) ∧ Hid (∀ j (hj : j < T.length), tail ≤ j → til ≤ T[j].2.1 + (frm + ins.length)) ∧ tail ≤ T.length ∧ acc.length ≤ now.length)
       case first =>
        go_wp2_with fail
        go_loopw [6, 9] (fun tv av wr => ∃ (a tail : Nat) (acc : List Tk) (v : Value), tv = .int .i64 tail ∧ av = .int .i64 a ∧ OutW w wr g gs go dc sp A T now v (T.take H ++ acc) ∧ Hid (Lx.Kp s frm til ins a tail acc) ∧ acc.length ≤ a ∧ a ≤ now.length ∧ tail ≤ T.length) (fun _ av _ => now.length - (intOf av).toNat)
        case atStart => exact ⟨a0, H, [], v, rfl, rfl, HO5, HKP.out, Nat.zero_le _, by have := HKP.out.le; rw [Hnow.out] at this; exact this, hhl⟩
        case round =>
         clear HO5
         as_aux_lemma =>
          obtain ⟨a, tail, acc, v', rfl, rfl, HO, HKp, hacc, ha, htl⟩ := hrel
          have j1 : (0 : Int) ≤ (a : Int) := by omega
          have p0 := HO.spn.cell 0
          have p2 := HO.spn.cell 2
          rw [Hsp.out] at p0 p2
          simp at p0 p2
          go_upto_region 12 with fail
          go_cut [134] (fun bv wc => bv = .bool (decide (frm + ins.length ≤ a)) ∧ wc = wr)
          case first =>
           by_cases hlim : frm + ins.length ≤ a
           ·have d1 : decide ((frm : Int) + ins.length ≤ a) = true := by simp; omega
            go_wp2_with fail
            go_meet
            exact ⟨by rw [decide_eq_true hlim], rfl⟩
           ·have d1 : decide ((frm : Int) + ins.length ≤ a) = false := by simp; omega
            go_wp2_with fail
            go_meet
            exact ⟨by rw [decide_eq_false hlim], rfl⟩
          case rest =>
           clear p0 p2
           obtain ⟨rfl, rfl⟩ := hcut
           go_upto_if 134 with fail
           go_cut [6] (fun tv wc' => ∃ tail' : Nat, tv = .int .i64 tail' ∧ OutW w wc' g gs go dc sp A T now v' (T.take H ++ acc) ∧ Hid (Lx.Kp s frm til ins a tail' acc) ∧ a < now.length ∧ tail' ≤ T.length ∧ Hid (Lx.stopB T (frm + ins.length) til a = false))
           case first =>
            by_cases hlim : frm + ins.length ≤ a
            ·have d1 : decide (frm + ins.length ≤ a) = true := by simp; omega
             have HL := Lib.hid hlim
             clear hlim
             go_upto_block 4 with fail
             go_cut [6] (fun tv wc' => ∃ tail' : Nat, tv = .int .i64 tail' ∧ OutW w wc' g gs go dc sp A T now v' (T.take H ++ acc) ∧ Hid (Lx.Kp s frm til ins a tail' acc) ∧ tail' ≤ T.length ∧ Hid (∀ h : tail' < T.length, til ≤ T[tail'].2.1 ∧ a + til ≤ T[tail'].2.1 + (frm + ins.length)))
             case first =>
              as_aux_lemma =>
               go_wp2_with fail
               go_loopw [6] (fun tv wr => ∃ tail' : Nat, tv = .int .i64 tail' ∧ OutW w wr g gs go dc sp A T now v' (T.take H ++ acc) ∧ Hid (Lx.Kp s frm til ins a tail' acc) ∧ tail' ≤ T.length) (fun tv _ => T.length - (intOf tv).toNat)
               case atStart => exact ⟨tail, rfl, HO, HKp.out, htl⟩
               case round =>
                clear HO HKp htl
                obtain ⟨tail', rfl, HO, HKp, htl⟩ := hrel
                have k1 : (0 : Int) ≤ (tail' : Int) := by omega
                have q1 := HO.old.cell 1
                have p1 := HO.spn.cell 1
                rw [Hdc.out] at q1
                rw [Hsp.out] at p1
                simp at q1 p1
                by_cases hlt : tail' < T.length
                ·obtain ⟨b, o, rfl, hbB, c0, c1, c2⟩ := Rd.tk HO.rd hlt
                 have htk := Htk.out tail' hlt
                 have k2 : (tail' : Int) < (T.length : Int) := by omega
                 have d2 : decide (tail' < T.length) = true := by simp [hlt]
                 have Hnx : Hid (T[tail'].2.1 < til ∨ T[tail'].2.1 + (frm + ins.length) < a + til → Lx.Kp s frm til ins a (tail' + 1) acc) := fun h => by
                  have h1 := HKp.out
                  have := Lx.Kp.less (s := s) (frm := frm) (til := til) (ins := ins) h1 HL.out (by rw [HT.out]; exact hlt) (by simp only [HT.out]; exact h)
                  exact this
                 have Hst : Hid (¬ T[tail'].2.1 < til → ¬ T[tail'].2.1 + (frm + ins.length) < a + til → ∀ h : tail' < T.length, til ≤ T[tail'].2.1 ∧ a + til ≤ T[tail'].2.1 + (frm + ins.length)) := fun _ _ _ => by omega
                 generalize T[tail'] = x at *
                 by_cases g1 : x.2.1 < til
                 ·have Hn := Lib.hid (Hnx.out (.inl g1))
                  have d3 : decide (x.2.1 < til) = true := by simp; omega
                  clear Hnx Hst g1
                  go_wp2_with fail
                  go_quiet (fail)
                  go_wp2_with fail
                  go_roundw
                  case rel => exact ⟨tail' + 1, by go_num, HO.below (below_drewN (Below.refl _ _) _), Hn.out, by omega⟩
                  case measure => simp [intOf]; omega
                 ·by_cases g2 : x.2.1 + (frm + ins.length) < a + til
                  ·have Hn := Lib.hid (Hnx.out (.inr g2))
                   have d3 : decide (x.2.1 < til) = false := by simp; omega
                   have d4 : decide ((x.2.1 : Int) + ((ins.length : Int) - ((til : Int) - frm)) < a) = true := by simp; omega
                   clear Hnx Hst g1 g2
                   go_wp2_with fail
                   go_quiet (fail)
                   go_wp2_with fail
                   go_roundw
                   case rel => exact ⟨tail' + 1, by go_num, HO.below (below_drewN (Below.refl _ _) _), Hn.out, by omega⟩
                   case measure => simp [intOf]; omega
                  ·have Hn := Lib.hid (Hst.out g1 g2)
                   have d3 : decide (x.2.1 < til) = false := by simp; omega
                   have d4 : decide ((x.2.1 : Int) + ((ins.length : Int) - ((til : Int) - frm)) < a) = false := by simp; omega
                   clear Hnx Hst g1 g2
                   go_wp2_with fail
                   go_quiet (fail)
                   go_wp2_with fail
                   go_meet
                   exact ⟨tail', rfl, HO.below (below_drewN (Below.refl _ _) _), HKp.out, htl, Hn.out⟩
                ·have d2 : decide (tail' < T.length) = false := by simp; omega
                 have Hn : Hid (∀ h : tail' < T.length, til ≤ T[tail'].2.1 ∧ a + til ≤ T[tail'].2.1 + (frm + ins.length)) := fun h => absurd h hlt
                 go_wp2_with fail
                 go_quiet (fail)
                 go_wp2_with fail
                 go_meet
                 exact ⟨tail', rfl, HO.below (below_drewN (Below.refl _ _) _), HKp.out, htl, Hn.out⟩
             case rest =>
              clear HO HKp htl
              obtain ⟨tail', rfl, HO, HKp, htl, HE⟩ := hcut
              as_aux_lemma =>
               have k1 : (0 : Int) ≤ (tail' : Int) := by omega
               have q1 := HO.old.cell 1
               have o0 := HO.doc.cell 0
               rw [Hdc.out] at q1
               simp at q1 o0
               have Hdn : Hid ((∃ h : tail' < T.length, T[tail'].2.1 + (frm + ins.length) = a + til) ∨ a = now.length → Lx.tokR 0 now = T.take H ++ acc ++ (T.drop tail').map (fun t => (t.1, t.2.1 + (frm + ins.length) - til, t.2.2)) ∧ Lx.behindM s frm til ins = tail' ∧ (∀ j (hj : j < T.length), tail' ≤ j → til ≤ T[j].2.1 + (frm + ins.length))) := fun h => by
                have := Lx.Kp.done (s := s) (frm := frm) (til := til) (ins := ins) HKp.out H1.out H2.out HL.out (by simp only [HT.out]; exact HE.out) (by simp only [HT.out, Hnow.out]; exact h)
                simp only [HT.out, Hnow.out, HH0.out] at this
                exact ⟨this.1, this.2.2.1, this.2.2.2⟩
               have Hgo : Hid (a < now.length → (∀ h : tail' < T.length, T[tail'].2.1 + (frm + ins.length) ≠ a + til) → Lx.stopB T (frm + ins.length) til a = false) := fun _ h => by
                have := Lx.Kp.go_on (s := s) (frm := frm) (til := til) (ins := ins) HKp.out HL.out (by simp only [HT.out]; exact HE.out) (by simp only [HT.out]; exact h)
                rw [HT.out] at this
                exact this
               by_cases hlt : tail' < T.length
               ·obtain ⟨b, o, rfl, hbB, c0, c1, c2⟩ := Rd.tk HO.rd hlt
                have htk := Htk.out tail' hlt
                have k2 : (tail' : Int) < (T.length : Int) := by omega
                have d2 : decide (tail' < T.length) = true := by simp [hlt]
                have Hge := Lib.hid (HE.out hlt).1
                have Hne : Hid (T[tail'].2.1 + (frm + ins.length) ≠ a + til → ∀ h : tail' < T.length, T[tail'].2.1 + (frm + ins.length) ≠ a + til) := fun h _ => h
                have Hex : Hid (T[tail'].2.1 + (frm + ins.length) = a + til → (∃ h : tail' < T.length, T[tail'].2.1 + (frm + ins.length) = a + til) ∨ a = now.length) := fun h => .inl ⟨hlt, h⟩
                clear HE
                generalize hx : T[tail'] = x at c0 c1 c2 htk Hge Hne Hex
                clear hx
                by_cases he : x.2.1 + (frm + ins.length) = a + til
                ·have HX := Lib.hid (Hdn.out (Hex.out he))
                 have e1 : ((x.2.1 : Int) + ((ins.length : Int) - ((til : Int) - frm)) == (a : Int)) = true := by simp; omega
                 clear Hdn Hgo Hne Hex Hge he
                 go_wp2_with fail
                 go_meet
                 exact ⟨a, tail', acc, v', rfl, rfl, HO, HX.out.1, HX.out.2.1, HX.out.2.2, htl, by omega⟩
                ·have e1 : ((x.2.1 : Int) + ((ins.length : Int) - ((til : Int) - frm)) == (a : Int)) = false := by have := Hge.out; simp; omega
                 by_cases hz : a = now.length
                 ·have HX := Lib.hid (Hdn.out (.inr hz))
                  have e2 : ((a : Int) == (now.length : Int)) = true := by simp [hz]
                  clear Hdn Hgo Hne Hex Hge he
                  have Hz2 := Lib.hid hz
                  clear hz
                  go_wp2_with fail
                  go_meet
                  exact ⟨a, tail', acc, v', rfl, rfl, HO, HX.out.1, HX.out.2.1, HX.out.2.2, htl, by omega⟩
                 ·have e2 : ((a : Int) == (now.length : Int)) = false := by simp; omega
                  have HS := Lib.hid (Hgo.out (by omega) (Hne.out he))
                  have hltn : a < now.length := by omega
                  clear Hdn Hgo Hne Hex Hge he hz
                  go_wp2_with fail
                  go_meet
                  exact ⟨tail', rfl, HO, HKp.out, hltn, htl, HS.out⟩
               ·have d2 : decide (tail' < T.length) = false := by simp; omega
                clear HE
                by_cases hz : a = now.length
                ·have HX := Lib.hid (Hdn.out (.inr hz))
                 have e2 : ((a : Int) == (now.length : Int)) = true := by simp [hz]
                 clear Hdn Hgo
                 have Hz2 := Lib.hid hz
                 clear hz
                 go_wp2_with fail
                 go_meet
                 exact ⟨a, tail', acc, v', rfl, rfl, HO, HX.out.1, HX.out.2.1, HX.out.2.2, htl, by omega⟩
                ·have e2 : ((a : Int) == (now.length : Int)) = false := by simp; omega
                 have HS := Lib.hid (Hgo.out (by omega) (fun h => absurd h hlt))
                 have hltn : a < now.length := by omega
                 clear Hdn Hgo hz
                 go_wp2_with fail
                 go_meet
                 exact ⟨tail', rfl, HO, HKp.out, hltn, htl, HS.out⟩
            ·have d1 : decide (frm + ins.length ≤ a) = false := by simp; omega
             have HS : Hid (Lx.stopB T (frm + ins.length) til a = false) := by
              have := Lx.Kp.go_low (s := s) (frm := frm) (til := til) (ins := ins) hlim
              rw [HT.out] at this
              exact this
             have hlt : a < now.length := by have := hnl.out; have := H2.out; omega
             go_wp2_with fail
             go_meet
             exact ⟨tail, rfl, HO, HKp.out, hlt, htl, HS.out⟩
           case rest =>
            clear HO HKp htl
            obtain ⟨tail', rfl, HO, HKp, hlt, htl, HS⟩ := hcut
            as_aux_lemma =>
             have hnm := next_walk now a m wc (hM.below HO.bel hM.lt) (hT.below HO.bel) (hW.below HO.bel) hlt (by omega)
             have hne : now.drop a ≠ [] := by intro e; have := congrArg List.length e; rw [List.length_drop, List.length_nil] at this; omega
             have hone := Lx.one_le (now.drop a) hne
             rw [List.length_drop] at hone
             have HK2 : Hid (Lx.Kp s frm til ins (a + (Lx.oneM (now.drop a)).2) tail' (acc ++ [((Lx.oneM (now.drop a)).1, a, (Lx.oneM (now.drop a)).2)])) := by
              have := Lx.Kp.next (s := s) (frm := frm) (til := til) (ins := ins) HKp.out (by rw [HT.out]; exact HS.out) (by rw [Hnow.out]; exact hlt)
              rw [Hnow.out] at this
              exact this
             have o0 := HO.doc.cell 0
             simp at o0
             generalize Lx.oneM (now.drop a) = X at *
             obtain ⟨x1, x2⟩ := X
             simp only at hone HK2 hnm
             obtain ⟨u1, u2, u3, u4⟩ := hone
             have j2 : (a : Int) < (now.length : Int) := by omega
             clear hne HKp HS u3 u4
             go_wp2_with fail
             refine hnm.mono ?_
             clear hnm
             rintro e w4 ⟨rfl, hb4⟩
             have HO3 := (HO.below hb4).below ((Below.refl _ _).alloc (Nat.le_refl _) (.cells #[.int .i64 x1, .int .i64 a, .int .i64 x2] 131))
             have hB3 : Blk (w4.alloc (.cells #[.int .i64 x1, .int .i64 a, .int .i64 x2] 131)) w4.heap.size 131 #[.int .i64 x1, .int .i64 a, .int .i64 x2] := Blk.new _ _ _
             have hgo4 : go < w4.heap.size := (HO.below hb4).doc.lt
             have hov : ∀ k, v'.ownBlock = some k → k < w4.heap.size := fun k hk => ((HO.below hb4).own.lt k hk).2
             have hxl : (T.take H ++ acc).length ≤ 8388608 := by rw [List.length_append, List.length_take]; omega
             have hxs : Hid (∀ y : Tk, T.take H ++ (acc ++ [y]) = (T.take H ++ acc) ++ [y]) := fun y => by rw [List.append_assoc]
             clear o0 HO hb4
             generalize T.take H ++ acc = xs at HO3 hxl hxs
             go_upto_region 17 with fail
             obtain ⟨tb, htb⟩ : ∃ tb, tb = w4.heap.size := ⟨_, rfl⟩
             rw [← htb] at hB3 hgo4 hov ⊢
             clear htb
             generalize w4.alloc (.cells #[.int .i64 x1, .int .i64 a, .int .i64 x2] 131) = w3 at *
             have hgt : tb ≠ go := by omega
             obtain ⟨Av, cv, rfl⟩ := own_form HO3.own
             refine wp_region_G 10 (fun w' : World => w'.cell? ⟨tb, 0, none⟩ = some (.int .i64 x1) ∧ w'.cell? ⟨tb, 1, none⟩ = some (.int .i64 a) ∧ w'.cell? ⟨tb, 2, none⟩ = some (.int .i64 x2) ∧ w'.cell? ⟨go, 1, none⟩ = some (.slice Av xs.length cv)) (by kernel_rfl) ?_
             have HO4 := HO3.below ((Below.refl _ _).drew)
             have hB4 := hB3.drew
             clear HO3 hB3
             generalize w3.drew = w4 at *
             have t0 := hB4.cell 0
             have t1 := hB4.cell 1
             have t2 := hB4.cell 2
             have o1 := HO4.doc.cell 1
             have o0 := HO4.doc.cell 0
             simp at t0 t1 t2 o1 o0
             have htl3 := hB4.lt
             have hol3 := HO4.doc.lt
             have hS0 : (fun w' : World => w'.cell? ⟨tb, 0, none⟩ = some (.int .i64 x1) ∧ w'.cell? ⟨tb, 1, none⟩ = some (.int .i64 a) ∧ w'.cell? ⟨tb, 2, none⟩ = some (.int .i64 x2) ∧ w'.cell? ⟨go, 1, none⟩ = some (.slice Av xs.length cv)) w4 := ⟨t0, t1, t2, o1⟩
             refine wpAnyG_tk 0 hS0 ?_
             simp only [Act.put, List.setIfInBounds_toArray]
             refine wpAnyG_tk 1 hS0 ?_
             simp only [Act.put]
             refine wpAnyG_tk 2 hS0 ?_
             simp only [Act.put]
             refine wpAnyG_tk 3 hS0 ?_
             simp only [Act.put]
             refine wpAnyG_tk 4 hS0 ?_
             simp only [Act.put]
             refine wpAnyG_tk 5 hS0 ?_
             simp only [Act.put]
             refine wpAnyG_on 6 fun K hK => ?_
             go_simp
             refine hK.out _ _ (fun _ => ⟨(cell_alloc _ _ _ _ htl3).trans t0, (cell_alloc _ _ _ _ htl3).trans t1, (cell_alloc _ _ _ _ htl3).trans t2, (cell_alloc _ _ _ _ hol3).trans o1⟩) ?_
             clear hK K
             refine wpAnyG_on 7 fun K hK => ?_
             refine step_append_lies _ (by rfl) _ _ _ (by rfl) (go + 1) 131 i0 _ 3 24 Tryz.underlying83 ji jz0 jz1 jz2 rfl (by omega) (.slice Av xs.length cv) xs.length (tksC xs) (by rfl) (HO4.own.alloc (.cells #[.int .i64 x1, .int .i64 a, .int .i64 x2] 131)) ⟨w4.heap.size, 0, none⟩ 1 1 [.int .i64 x1, .int .i64 a, .int .i64 x2] (by rfl) (by rfl) (World.news_of_block (cs := #[.int .i64 x1, .int .i64 a, .int .i64 x2]) (t := 131) (fr := (0, 0)) (heap_alloc_new w4 _)) (by simp [Value.oneCell']) (by omega) (by unfold maxLen; omega) (by omega) (by simp; omega) (w4.heap.size + 1) (by simp) ?_
             intro gg cap' w5 hown5 hgrow hat hlt5
             have hnt : some tb ≠ (Value.slice Av xs.length cv).ownBlock := fun e => by have := hov tb e.symm; omega
             have hng : some go ≠ (Value.slice Av xs.length cv).ownBlock := fun e => by have := (HO4.own.lt go e.symm); omega
             have hB5 := (hB4.alloc (.cells #[.int .i64 x1, .int .i64 a, .int .i64 x2] 131)).grown hgrow hnt
             have hg5 := (HO4.doc.alloc (.cells #[.int .i64 x1, .int .i64 a, .int .i64 x2] 131)).grown hgrow hng
             have b0 := hB5.cell 0
             have b1 := hB5.cell 1
             have b2 := hB5.cell 2
             have b3 := hg5.cell 1
             have bf := hg5.frozen 1
             simp at b0 b1 b2 b3
             refine hK.out _ _ (fun _ => ⟨b0, b1, b2, b3⟩) ?_
             clear hK K
             refine wpAnyG_on 8 fun K hK => ?_
             go_simp
             refine hK.out _ _ (fun _ => ⟨b0, b1, b2, b3⟩) ?_
             clear hK K
             refine wpAnyG_on 9 fun K hK => ?_
             go_simp
             refine hK.out _ _ (fun _ => ⟨b0, b1, b2, b3⟩) ?_
             clear hK K
             refine wpAnyG_on 10 fun K hK => ?_
             go_simp
             refine hK.out _ _ (fun h => absurd rfl h) ?_
             clear hK K
             refine wpAnyG_done (by kernel_rfl) ?_ _
             have HO6 := HO4.push (x := (x1, a, x2)) hown5 hgrow
             have hB6 := hB5.far (p := ⟨go, 1, none⟩) hgt (.slice (some ⟨gg, 0, none⟩) (xs.length + 1) cap')
             clear HO4 hown5 hgrow hat hlt5 hB4 hB5 hg5 t0 t1 t2 o1 o0 b0 b1 b2 b3 bf hS0 htl3 hol3 hnt hng hgt hov
             generalize (World.setCell w5 ⟨go, 1, none⟩ (.slice (some ⟨gg, 0, none⟩) (xs.length + 1) cap')) = w6 at *
             have t2 := hB6.cell 2
             simp at t2
             clear hB6
             go_wp2_with fail
             go_roundw
             case rel => exact ⟨a + x2, tail', acc ++ [(x1, a, x2)], _, rfl, by go_num, by rw [hxs.out]; exact HO6, HK2.out, by simp; omega, by omega, htl⟩
             case measure => simp [intOf]; omega
       case rest =>
        clear HO5
        obtain ⟨a, tail, acc, v, rfl, rfl, HO, HX, HB, HG, htl, hacc⟩ := hcut
        as_aux_lemma =>
         have hxl0 : (T.take H ++ acc).length ≤ 4194304 + 4194304 := by rw [List.length_append, List.length_take]; omega
         generalize T.take H ++ acc = xs0 at HO HX hxl0
         have q1 := HO.old.cell 1
         rw [Hdc.out] at q1
         simp at q1
         go_upto_region 19 with fail
         go_cut [226, 227, 228] (fun sv lv iv wc' => ∃ A' c', sv = .slice A' (T.length - tail) c' ∧ lv = .int .i64 ((T.length - tail : Nat) : Int) ∧ iv = .int .i64 0 ∧ wc' = wc ∧ Rd w w.heap.size 3 A' (T.drop tail).length (tksC (T.drop tail)))
         case first =>
          have k1 : (0 : Int) ≤ (tail : Int) := by omega
          have k2 : (tail : Int) ≤ (T.length : Int) := by omega
          cases A with
          | none =>
           have h0 := hAc rfl
           subst h0
           obtain rfl : tail = 0 := by omega
           go_wp2_with fail
           go_meet
           have hT0 : T.length = 0 := by omega
           exact ⟨none, _, by first | rfl | (rw [hT0]), by rw [hT0]; rfl, rfl, rfl, Rd.tkNone hcap⟩
          | some ad =>
           by_cases hct : c = tail
           ·go_wp2_with fail
            go_meet
            exact ⟨some ad, _, rfl, rfl, rfl, rfl, Rd.tkNone (by omega)⟩
           ·go_wp2_with fail
            go_meet
            exact ⟨some (ad.add (tail * 3)), _, rfl, rfl, rfl, rfl, hrd0.tkDrop tail⟩
         case rest =>
          as_aux_lemma =>
           obtain ⟨A', c', rfl, rfl, rfl, rfl, hrdT⟩ := hcut
           have hdl : (T.drop tail).length = T.length - tail := by rw [List.length_drop]
           have Hel : Hid (∀ k (hk : k < (T.drop tail).length), ∃ hj : tail + k < T.length, (T.drop tail)[k] = T[tail + k]) := fun k hk => by
            have hj : tail + k < T.length := by rw [hdl] at hk; omega
            exact ⟨hj, by rw [List.getElem_drop]⟩
           rw [← hdl]
           have hGe : Hid (∀ k (hk : k < (T.drop tail).length), til ≤ ((T.drop tail)[k]).2.1 + (frm + ins.length) ∧ ((T.drop tail)[k]).2.1 ≤ s.length) := fun k hk => by
            obtain ⟨hj, e⟩ := Hel.out k hk
            rw [e]
            have := Htk.out (tail + k) hj
            exact ⟨HG.out _ hj (by omega), by omega⟩
           have hml : (T.drop tail).length ≤ 4194304 := by omega
           clear Hel hdl hrd0
           generalize T.drop tail = M at *
           go_wp2_with fail
           go_loopw [228] (fun iv wr => ∃ (k : Nat) (v : Value), iv = .int .i64 k ∧ k ≤ M.length ∧ OutW w wr g gs go dc sp A T now v (xs0 ++ (M.take k).map (fun t => (t.1, t.2.1 + (frm + ins.length) - til, t.2.2)))) (fun iv _ => M.length - (intOf iv).toNat)
           case atStart => exact ⟨0, v, rfl, Nat.zero_le _, by simpa using HO⟩
           case round =>
            clear HO q1
            obtain ⟨k, v, rfl, hk, HO⟩ := hrel
            have j1 : (0 : Int) ≤ (k : Int) := by omega
            by_cases hlt : k < M.length
            ·have j2 : (k : Int) < (M.length : Int) := by omega
             obtain ⟨b, o, rfl, hbB, c0, c1, c2⟩ := Rd.tk (hrdT.below HO.bel) hlt
             obtain ⟨g1, g2⟩ := hGe.out k hlt
             have hxl : (xs0 ++ (M.take k).map (fun t => (t.1, t.2.1 + (frm + ins.length) - til, t.2.2))).length ≤ 16777216 := by rw [List.length_append, List.length_map, List.length_take]; omega
             have hxs : Hid (xs0 ++ (M.take (k + 1)).map (fun t => (t.1, t.2.1 + (frm + ins.length) - til, t.2.2)) = (xs0 ++ (M.take k).map (fun t => (t.1, t.2.1 + (frm + ins.length) - til, t.2.2))) ++ [(M[k].1, M[k].2.1 + (frm + ins.length) - til, M[k].2.2)]) := by
              show _ = _
              rw [List.take_succ_eq_append_getElem hlt, List.map_append, List.append_assoc]; rfl
             generalize hmk : M[k] = x at c0 c1 c2 g1 g2 hxs
             clear hmk
             obtain ⟨x1, x2, x3⟩ := x
             simp only at c0 c1 c2 g1 g2 hxs
             generalize xs0 ++ (M.take k).map (fun t => (t.1, t.2.1 + (frm + ins.length) - til, t.2.2)) = xs at HO hxl hxs
             have e2 : (x2 : Int) + ((ins.length : Int) - ((til : Int) - frm)) = ((x2 + (frm + ins.length) - til : Nat) : Int) := by omega
             have He2 := Lib.hid e2
             clear e2
             as_aux_lemma =>
              have hgo4 : go < wr.heap.size := HO.doc.lt
              have hov : ∀ k, v.ownBlock = some k → k < wr.heap.size := fun k hk => (HO.own.lt k hk).2
              go_upto_region 23 with fail
              rw [He2.out]
              clear He2
              have hy2 : x2 + (frm + ins.length) - til ≤ 16777216 := by omega
              generalize x2 + (frm + ins.length) - til = y2 at *
              have HO3 := HO.below ((Below.refl _ _).alloc (Nat.le_refl _) (.cells #[.int .i64 x1, .int .i64 (y2 : Nat), .int .i64 x3] 131))
              have hB3 : Blk (wr.alloc (.cells #[.int .i64 x1, .int .i64 (y2 : Nat), .int .i64 x3] 131)) wr.heap.size 131 #[.int .i64 x1, .int .i64 (y2 : Nat), .int .i64 x3] := Blk.new _ _ _
              clear HO c0 c1 c2
              obtain ⟨tb, htb⟩ : ∃ tb, tb = wr.heap.size := ⟨_, rfl⟩
              rw [← htb] at hB3 hgo4 hov ⊢
              clear htb
              generalize wr.alloc (.cells #[.int .i64 x1, .int .i64 (y2 : Nat), .int .i64 x3] 131) = w3 at *
              have hgt : tb ≠ go := by omega
              obtain ⟨Av, cv, rfl⟩ := own_form HO3.own
              refine wp_region_G 10 (fun w' : World => w'.cell? ⟨tb, 0, none⟩ = some (.int .i64 x1) ∧ w'.cell? ⟨tb, 1, none⟩ = some (.int .i64 (y2 : Nat)) ∧ w'.cell? ⟨tb, 2, none⟩ = some (.int .i64 x3) ∧ w'.cell? ⟨go, 1, none⟩ = some (.slice Av xs.length cv)) (by kernel_rfl) ?_
              have HO4 := HO3.below ((Below.refl _ _).drew)
              have hB4 := hB3.drew
              clear HO3 hB3
              generalize w3.drew = w4 at *
              have t0 := hB4.cell 0
              have t1 := hB4.cell 1
              have t2 := hB4.cell 2
              have o1 := HO4.doc.cell 1
              have o0 := HO4.doc.cell 0
              simp at t0 t1 t2 o1 o0
              have htl3 := hB4.lt
              have hol3 := HO4.doc.lt
              have hS0 : (fun w' : World => w'.cell? ⟨tb, 0, none⟩ = some (.int .i64 x1) ∧ w'.cell? ⟨tb, 1, none⟩ = some (.int .i64 (y2 : Nat)) ∧ w'.cell? ⟨tb, 2, none⟩ = some (.int .i64 x3) ∧ w'.cell? ⟨go, 1, none⟩ = some (.slice Av xs.length cv)) w4 := ⟨t0, t1, t2, o1⟩
              refine wpAnyG_tk 0 hS0 ?_
              simp only [Act.put, List.setIfInBounds_toArray]
              refine wpAnyG_tk 1 hS0 ?_
              simp only [Act.put]
              refine wpAnyG_tk 2 hS0 ?_
              simp only [Act.put]
              refine wpAnyG_tk 3 hS0 ?_
              simp only [Act.put]
              refine wpAnyG_tk 4 hS0 ?_
              simp only [Act.put]
              refine wpAnyG_tk 5 hS0 ?_
              simp only [Act.put]
              refine wpAnyG_on 6 fun K hK => ?_
              go_simp
              refine hK.out _ _ (fun _ => ⟨(cell_alloc _ _ _ _ htl3).trans t0, (cell_alloc _ _ _ _ htl3).trans t1, (cell_alloc _ _ _ _ htl3).trans t2, (cell_alloc _ _ _ _ hol3).trans o1⟩) ?_
              clear hK K
              refine wpAnyG_on 7 fun K hK => ?_
              refine step_append_lies _ (by rfl) _ _ _ (by rfl) (go + 1) 131 i0 _ 3 24 Tryz.underlying83 ji jz0 jz1 jz2 rfl (by omega) (.slice Av xs.length cv) xs.length (tksC xs) (by rfl) (HO4.own.alloc (.cells #[.int .i64 x1, .int .i64 (y2 : Nat), .int .i64 x3] 131)) ⟨w4.heap.size, 0, none⟩ 1 1 [.int .i64 x1, .int .i64 (y2 : Nat), .int .i64 x3] (by rfl) (by rfl) (World.news_of_block (cs := #[.int .i64 x1, .int .i64 (y2 : Nat), .int .i64 x3]) (t := 131) (fr := (0, 0)) (heap_alloc_new w4 _)) (by simp [Value.oneCell']) (by omega) (by unfold maxLen; omega) (by omega) (by simp; omega) (w4.heap.size + 1) (by simp) ?_
              intro gg cap' w5 hown5 hgrow hat hlt5
              have hnt : some tb ≠ (Value.slice Av xs.length cv).ownBlock := fun e => by have := hov tb e.symm; omega
              have hng : some go ≠ (Value.slice Av xs.length cv).ownBlock := fun e => by have := (HO4.own.lt go e.symm); omega
              have hB5 := (hB4.alloc (.cells #[.int .i64 x1, .int .i64 (y2 : Nat), .int .i64 x3] 131)).grown hgrow hnt
              have hg5 := (HO4.doc.alloc (.cells #[.int .i64 x1, .int .i64 (y2 : Nat), .int .i64 x3] 131)).grown hgrow hng
              have b0 := hB5.cell 0
              have b1 := hB5.cell 1
              have b2 := hB5.cell 2
              have b3 := hg5.cell 1
              have bf := hg5.frozen 1
              simp at b0 b1 b2 b3
              refine hK.out _ _ (fun _ => ⟨b0, b1, b2, b3⟩) ?_
              clear hK K
              refine wpAnyG_on 8 fun K hK => ?_
              go_simp
              refine hK.out _ _ (fun _ => ⟨b0, b1, b2, b3⟩) ?_
              clear hK K
              refine wpAnyG_on 9 fun K hK => ?_
              go_simp
              refine hK.out _ _ (fun _ => ⟨b0, b1, b2, b3⟩) ?_
              clear hK K
              refine wpAnyG_on 10 fun K hK => ?_
              go_simp
              refine hK.out _ _ (fun h => absurd rfl h) ?_
              clear hK K
              refine wpAnyG_done (by kernel_rfl) ?_ _
              have HO6 := HO4.push (x := (x1, y2, x3)) hown5 hgrow
              have hB6 := hB5.far (p := ⟨go, 1, none⟩) hgt (.slice (some ⟨gg, 0, none⟩) (xs.length + 1) cap')
              clear HO4 hown5 hgrow hat hlt5 hB4 hB5 hg5 t0 t1 t2 o1 o0 b0 b1 b2 b3 bf hS0 htl3 hol3 hnt hng hgt hov
              generalize (World.setCell w5 ⟨go, 1, none⟩ (.slice (some ⟨gg, 0, none⟩) (xs.length + 1) cap')) = w6 at *
              have t2 := hB6.cell 2
              simp at t2
              clear hB6
              go_wp2_with fail
              go_roundw
              case rel => exact ⟨k + 1, _, by go_num, by omega, by rw [hxs.out]; exact HO6⟩
              case measure => simp [intOf]; omega
            ·obtain rfl : k = M.length := by omega
             rw [List.take_length] at HO
             have HF : OutW w wr g gs go dc sp A T now v (Lx.tokR 0 now) := by rw [HX.out]; exact HO
             clear HO HX
             go_wp2_with fail
             refine bodyPost_ret (results_tmp4 rfl _ _ _) rfl ?_
             obtain ⟨Av, cv, rfl, hle, hvn⟩ := own_cap HF.own
             refine ⟨go, by rw [HB.out]; rfl, by have := HF.lo; have := HF.lg; omega, ⟨Av, cv, HF.doc, hvn, hle, Rd.of_own HF.own⟩, HF.bel⟩
structure TreeOf (w : World) (F : Nat → Prop) (gt : Nat) (s : Bs) (T : List Tk) (ks : List Tr.Kd) (ts : List Tr.PT) : Prop where
 ex : ∃ d A c, TreeIs w F gt d A c T ks ts ∧ DocAt w d s T ∧ F d ∧ RowF w F A (tksC T) ∧ T.length ≤ c ∧ d ≠ gt
 at_ : F gt
theorem Aft.toBelow {w w' : World} {g : Nat} {B : Nat} (h : Aft (Old w) g w w') (hB : B ≤ w.heap.size) (hg : B ≤ g) : Below B w w' :=
 ⟨h.calm.os, h.calm.tape, h.calm.output, h.size, fun x hx => h.oth x (Nat.lt_of_lt_of_le hx hB) (by omega)⟩
set_option maxHeartbeats 4000000 in
set_option maxRecDepth 100000 in
theorem tnew_walk (s : Bs) (m : Int) (w : World) (hM : MaxL w m) (hT8 : T8 w) (hW : WordsIs w) (hl : s.length ≤ 1048576) :
  Calls Tryz.prog 11 #[.string ⟨s.toArray⟩] w fun e w' => ∃ gt, e = .returned (.pointer (some ⟨gt, 0, none⟩)) ∧ TreeOf w' (fun x => w.heap.size ≤ x) gt s (Lx.tokR 0 s) (Tr.kidsP s (Lx.tokR 0 s) ((Lx.tokR 0 s).length + 1) 0).1 (Tr.tailP s (Lx.tokR 0 s) (Tr.kidsP s (Lx.tokR 0 s) ((Lx.tokR 0 s).length + 1) 0).2) ∧ Below w.heap.size w w' := by
 have hnew := lnew_walk s m w hM hT8 hW (by omega)
 have hTl := Lx.tokR_len s.length 0 s (Nat.le_refl _)
 obtain ⟨hS, -⟩ := Lx.tok_side s (by omega) hTl
 generalize Lx.tokR 0 s = T at *
 have X : Txts s T := ⟨hS.good, by omega, by omega⟩
 have HTl : Hid (T.length ≤ 1048576) := by show _ ≤ _; omega
 clear hS hTl hM hT8 hW hl
 go_enter Tryz.func11, Tryz.ntmps11
 go_wp2_with fail
 refine hnew.mono ?_
 clear hnew
 rintro e w1 ⟨d, rfl, hd, hD, hb1⟩
 have hd2 : Below w1.heap.size w1 (w1.alloc (.cells #[.pointer (some ⟨d, 0, none⟩), .slice none 0 0, .slice none 0 0, .slice none 0 0] 87)) := (Below.refl _ _).alloc (Nat.le_refl _) _
 have hB : Blk (w1.alloc (.cells #[.pointer (some ⟨d, 0, none⟩), .slice none 0 0, .slice none 0 0, .slice none 0 0] 87)) w1.heap.size 87 #[.pointer (some ⟨d, 0, none⟩), .slice none 0 0, .slice none 0 0, .slice none 0 0] := Blk.new _ _ _
 have hD2 := hD.below hd2
 obtain ⟨gt, hgt⟩ : ∃ g, g = w1.heap.size := ⟨_, rfl⟩
 rw [← hgt] at hB
 have hdl : d < gt := by obtain ⟨_, _, h, _⟩ := hD; rw [hgt]; exact h.lt
 have Hgt := Lib.hid hgt
 go_upto_region 2 with fail
 rw [← hgt]
 clear hgt
 generalize w1.alloc (.cells #[.pointer (some ⟨d, 0, none⟩), .slice none 0 0, .slice none 0 0, .slice none 0 0] 87) = w2 at *
 have htk := ltokens_walk d s T w2 hD2 (by have := HTl.out; omega)
 have z0 := hB.cell 0
 simp at z0
 go_wp2_with fail
 refine htk.mono ?_
 clear htk
 rintro e w3 ⟨A, rfl, ⟨c0, hown⟩, hd3⟩
 have hB3 := hB.below hd3 hB.lt
 have z1 := hB3.cell 1
 have y1 := hB3.frozen 1
 simp at z1
 have hB4 := hB3.set_ 1 (.slice A T.length T.length)
 simp at hB4
 have hrow : RowF w3 (fun x => w2.heap.size ≤ x) A (tksC T) := (own_row hown fun q hq => (hown.lt q hq).1).2
 have hgl := hB.lt
 go_upto_region 3 with fail
 have hz4 : w3.heap.size ≤ (w3.setCell ⟨gt, 1, none⟩ (.slice A T.length T.length)).heap.size := by simp [World.setCell]
 have hrow4 : RowF (w3.setCell ⟨gt, 1, none⟩ (.slice A T.length T.length)) (fun x => w2.heap.size ≤ x) A (tksC T) := hrow.keep hz4 fun x hx _ => ⟨Below.heap_setCell _ ⟨gt, 1, none⟩ _ x (by have hx : w2.heap.size ≤ x := hx; show x ≠ gt; omega), hx⟩
 have hb4 : Below gt w1 (w3.setCell ⟨gt, 1, none⟩ (.slice A T.length T.length)) := (((by have := hd2; rwa [← Hgt.out] at this) : Below gt w1 w2).trans (hd3.mono (Nat.le_of_lt hgl))).setCell (p := ⟨gt, 1, none⟩) (Nat.le_refl _) _
 clear z0 z1 y1 hB hB3 hown hrow hd3 hD2 hd2
 generalize w3.setCell ⟨gt, 1, none⟩ (.slice A T.length T.length) = w4 at *
 have hD4 := hD.below (by have := hb4; rwa [Hgt.out] at this)
 obtain ⟨A1, c1, hB1, _⟩ := id hD4
 have hrd := read_nil X hB4 hB1 (hrow4.keep (F' := fun x => x ≠ gt) (Nat.le_refl _) fun x hx _ => ⟨rfl, (by have hx : w2.heap.size ≤ x := hx; show x ≠ gt; omega)⟩) (Nat.le_refl _)
 go_wp2_with fail
 refine hrd.mono ?_
 clear hrd
 rintro e w5 ⟨n, rfl, hA, hTr⟩
 go_wp2_with fail
 go_ret
 have hbz := hb1.size
 have hgt1 := Hgt.out
 have hz2 := hb4.size
 have hb5 : Below gt w1 w5 := hb4.trans (hA.toBelow (by omega) (Nat.le_refl _))
 have hD5 := hD.below (by rwa [hgt1] at hb5)
 refine ⟨gt, rfl, ⟨⟨d, A, T.length, ?_, hD5, hd, ?_, Nat.le_refl _, by omega⟩, by show _ ≤ _; omega⟩, hb1.trans (hb5.mono (by omega))⟩
 ·obtain ⟨Av, cv, At, ct, vs, us, h1, h2, h3, h4, h5, h6, h7⟩ := hTr.ex
  exact ⟨Av, cv, At, ct, vs, us, h1, h2, h3, h4.keep (Nat.le_refl _) (fun x hx _ => ⟨rfl, by have hx : w4.heap.size ≤ x := hx; show _ ≤ _; omega⟩), KdsF.keep (Nat.le_refl _) (fun x hx _ => ⟨rfl, by have hx : w4.heap.size ≤ x := hx; show _ ≤ _; omega⟩) _ _ h5, h6.keep (Nat.le_refl _) (fun x hx _ => ⟨rfl, by have hx : w4.heap.size ≤ x := hx; show _ ≤ _; omega⟩), PtsF.keep (Nat.le_refl _) (fun x hx _ => ⟨rfl, by have hx : w4.heap.size ≤ x := hx; show _ ≤ _; omega⟩) _ _ h7⟩
 ·exact hrow4.keep hA.size fun x hx hl => ⟨hA.oth x hl (by have hx : w2.heap.size ≤ x := hx; omega), by have hx : w2.heap.size ≤ x := hx; show _ ≤ _; omega⟩
end Go.Proofs.YtalklmeejdmifaaGreatDoor
