/-
  JOINED of the texts ZI YC YA YD
-/
import Derived.Test.YtalklmeejdmifaaGreatDoorJav
namespace Go.Proofs.YtalklmeejdmifaaGreatDoor
open Go.RowKit
theorem infoIntA : (Tryz.prog.info? 3).map (fun i => (i.zero, i.size, i.bytes)) = some (some (.int .i64 0), 1, 8) := by kernel_rfl
def bgC (l : List Tr.Kd) : List Value := l.map fun k => .int .i64 (k.first : Int)
theorem bgC_take (l : List Tr.Kd) (i : Nat) (h : i < l.length) : bgC (l.take (i + 1)) = bgC (l.take i) ++ [.int .i64 (l[i].first : Int)] := by
 unfold bgC
 rw [List.take_succ_eq_append_getElem h, List.map_append]
 rfl
theorem bgC_get (l : List Tr.Kd) (j : Nat) (h : j < l.length) : (bgC l)[j]? = some (.int .i64 (l[j].first : Int)) := by
 unfold bgC
 rw [List.getElem?_map, List.getElem?_eq_getElem h]
 rfl
theorem NpF.kind {w : World} {F : Nat → Prop} {a : Nat} {fp : List Nat} {q : Nat} {v : Value} : ∀ {p : Tr.PT}, NpF w F p a fp v → v = .pointer (some ⟨q, 0, none⟩) → ∃ k : Nat, w.cell? ⟨q, 0, none⟩ = some (.int .i64 (k : Int)) ∧ ((∃ k' t' a', p = .leaf k' t' a') → k = 0) ∧ ((∃ k' a' l', p = .branch k' a' l' ∧ 2 ≤ k') → 2 ≤ k)
 | .leaf k t x, h, hv => by
  obtain ⟨g, e, _, _, hB⟩ := h
  rw [e] at hv
  obtain rfl : g = q := by simpa using hv
  exact ⟨0, (hB.cell 0), fun _ => rfl, fun ⟨_, _, _, e, _⟩ => by cases e⟩
 | .gap t x d, h, hv => by
  obtain ⟨g, e, _, _, hB⟩ := h
  rw [e] at hv
  obtain rfl : g = q := by simpa using hv
  exact ⟨1, (hB.cell 0), fun ⟨_, _, _, e⟩ => (by cases e), fun ⟨_, _, _, e, _⟩ => by cases e⟩
 | .branch k x l, h, hv => by
  obtain ⟨g, _, e, _, _, _, _, _, hB, _⟩ := h
  rw [e] at hv
  obtain rfl : g = q := by simpa using hv
  exact ⟨k, (hB.cell 0), fun ⟨_, _, _, e⟩ => (by cases e), fun ⟨_, _, _, e, h2⟩ => by cases e; exact h2⟩
set_option maxHeartbeats 16000000 in
set_option maxRecDepth 100000 in
theorem anew_walk (s : Bs) (frm til : Nat) (ins : Bs) (w : World) (h1 : frm ≤ til) (h2 : til ≤ s.length) (hl : s.length + ins.length ≤ 1048576) :
  Calls Tryz.prog 21 #[.string ⟨s.toArray⟩, .int .i64 frm, .int .i64 til, .string ⟨ins.toArray⟩] w fun e w' => e = .returned (.int .i64 (Tr.anewP s frm til ins : Int)) ∧ Below w.heap.size w w' := by
 obtain ⟨i0, ji, jz0, jz1, jz2⟩ := info_parts infoIntA
 have hst := stay_walk s frm til ins w h1 h2 (by omega)
 have hpar := fun w => rparse_walkT s w (by omega)
 have htk := fun w => rtokens_walk s w (by omega)
 have hnl := Lx.now_len s frm til ins h1 h2
 have htk' := fun w => rtokens_walk (Lx.nowM s frm til ins) w (by omega)
 have hTl' := Lx.tokR_length 0 (Lx.nowM s frm til ins)
 obtain ⟨hS', hW'⟩ := Lx.tok_side (Lx.nowM s frm til ins) (by omega) hTl'
 have X' : Txq (Lx.nowM s frm til ins) (Lx.tokR 0 (Lx.nowM s frm til ins)) := ⟨hS'.good, by omega, by omega⟩
 have hn := now_data s ins frm til h2
 have hF := Tr.an_facts h1 h2 hl
 have hAll : Tr.allP s (Lx.tokR 0 s) = (Tr.ksP s (Lx.tokR 0 s)).map (·.part) ++ Tr.tailP s (Lx.tokR 0 s) (Tr.kidsP s (Lx.tokR 0 s) ((Lx.tokR 0 s).length + 1) 0).2 := rfl
 rw [hAll] at hpar
 have i1 : (0 : Int) ≤ (frm : Int) := by omega
 have i2 : (frm : Int) ≤ (s.length : Int) := by omega
 have i3 : (0 : Int) ≤ (til : Int) := by omega
 have i4 : (til : Int) ≤ (s.length : Int) := by omega
 have hnz : (Lx.nowM s frm til ins).length ≤ 1048576 := by omega
 clear hAll hS' hTl' hnl h1 h2
 generalize Lx.nowM s frm til ins = now at *
 generalize Lx.tokR 0 now = T' at *
 generalize Tr.kptP (Lx.tokR 0 s) (Lx.headM (Lx.tokR 0 s) frm) (Tr.ksP s (Lx.tokR 0 s)) = kp at *
 generalize Tr.tailP s (Lx.tokR 0 s) (Tr.kidsP s (Lx.tokR 0 s) ((Lx.tokR 0 s).length + 1) 0).2 = ts at *
 generalize Tr.ksP s (Lx.tokR 0 s) = ks at *
 generalize Lx.headM (Lx.tokR 0 s) frm = H at *
 generalize Lx.behindM s frm til ins = Bh at *
 generalize (Lx.anewM s frm til ins).length = an at *
 generalize Tr.anewP s frm til ins = N at *
 generalize Tr.stopP s frm til ins = st at *
 generalize Tr.cntP' s frm til ins = cn at *
 generalize Lx.tokR 0 s = T at *
 go_enter Tryz.func21, Tryz.ntmps21
 go_wp2_with fail
 refine hst.mono ?_
 clear hst
 rintro e w1 ⟨rfl, hb1⟩
 have hpar := hpar w1
 go_wp2_with fail
 refine hpar.mono ?_
 clear hpar
 rintro e w2 ⟨q, fp, rfl, hnp, -, hb2⟩
 have hb2 := hb1.trans (hb2.mono hb1.size)
 have hbq := fun n => below_drewN hb2 n
 have hnpq := fun n => NpF.keep (w := w2) (w' := w2.drewN n) (F' := fun x => x < w2.heap.size) (Nat.le_refl w2.heap.size) (fun x _ hl => ⟨rfl, hl⟩) _ _ _ _ hnp
 have hszq := fun n : Nat => (show (w2.drewN n).heap.size = w2.heap.size from rfl)
 clear hnp
 go_wp2_with fail
 go_quiet (fail)
 have hb2 := hbq nq
 have hnp := hnpq nq
 rw [← hszq nq] at hnp
 clear hbq hnpq hszq hb1
 generalize w2.drewN nq = w2 at *
 have htk := htk w2
 go_wp2_with fail
 refine htk.mono ?_
 clear htk
 rintro e w3 ⟨A1, c1, rfl, hrd, hb3⟩
 have hnp := NpF.keep (F' := fun x => x < w3.heap.size) hb3.size (fun x _ hl => ⟨hb3.block x hl, Nat.lt_of_lt_of_le hl hb3.size⟩) _ _ _ _ hnp
 have hb3 := hb2.trans (hb3.mono hb2.size)
 have htk' := htk' w3
 go_wp2_with fail
 refine htk'.mono ?_
 clear htk'
 rintro e w4 ⟨A2, c2, rfl, hrd', hb4⟩
 have hnp := NpF.keep (F' := fun x => x < w4.heap.size) hb4.size (fun x _ hl => ⟨hb4.block x hl, Nat.lt_of_lt_of_le hl hb4.size⟩) _ _ _ _ hnp
 have hrd := (hrd.below hb4).more hb4.size
 have hb4 := hb3.trans (hb4.mono hb3.size)
 obtain ⟨q', fps, e0, _, hFq, Ar, cc, vs, hBq, _, hr, hps⟩ := hnp
 obtain rfl : q = q' := by simpa using e0
 unfold putC at hBq
 clear e0 hb2 hb3
 have hal : (ks.map (·.part) ++ ts).length = ks.length + ts.length := by rw [List.length_append, List.length_map]
 have hlen := hF.len
 have HAl := Lib.hid hal
 have Hlen := Lib.hid hlen
 clear hal hlen
 go_wp2_with fail
 go_loopg [16, 17, 18, 19, 20] (ks.length + ts.length) (fun m v16 v17 v18 v19 v20 wr => ∃ (i j : Nat) (Ab : Option Addr) (cb : Nat), v20 = .int .i64 (i : Int) ∧ Hid (j = min i ks.length) ∧ i ≤ ks.length + ts.length ∧ ks.length + ts.length - i ≤ m ∧ v16 = .int .i64 ((min j kp : Nat) : Int) ∧ v17 = .int .i64 (Tr.frmK ks j : Int) ∧ v18 = .slice Ab j cb ∧ v19 = .bool (decide (j ≤ kp)) ∧ wr.ownsRow w4.heap.size 3 1 (.slice Ab j cb) j (bgC (ks.take j)) ∧ Below w4.heap.size w4 wr)
 case atStart => exact ⟨0, 0, none, 0, rfl, by show _ = _; omega, Nat.zero_le _, Nat.le_refl _, by simp, rfl, rfl, by simp, by simpa [bgC] using World.ownsRow_nil _ _ _ _, Below.refl _ _⟩
 case round =>
  obtain ⟨i, j, Ab, cb, rfl, Hj, hi, hm, rfl, rfl, rfl, rfl, hown, hb⟩ := hrel
  have k3 := (hBq.below hb hBq.lt).cell 3
  simp [genC] at k3
  by_cases hik : i < ks.length + ts.length
  ·have ii0 : (0 : Int) ≤ (i : Int) := by omega
   have ii1 : (i : Int) < ((ks.length + ts.length : Nat) : Int) := by omega
   have hial : i < (ks.map (·.part) ++ ts).length := by rw [HAl.out]; exact hik
   obtain ⟨qk, a', fp', hv, hnk⟩ := hps.at_ hial
   obtain ⟨br, o, rfl, hFb, hbl, hc⟩ := hr (by have := hps.len; omega)
   have q0 := (hb.cell (p := ⟨br, o + i, none⟩) hbl).trans (hc _ _ hv)
   have hnkr := NpF.keep (w' := wr) (F' := fun x => x < w4.heap.size) hb.size (fun x hx hl => ⟨hb.block x hl, hx⟩) _ _ _ _ hnk
   obtain ⟨kk, kc, hk0, hk2⟩ := hnkr.kind rfl
   by_cases hlt : i < ks.length
   ·have hji : j = i := by have := Hj.out; omega
    subst hji
    have hpart : (ks.map (·.part) ++ ts)[j] = ks[j].part := by rw [List.getElem_append_left (by rw [List.length_map]; exact hlt), List.getElem_map]
    obtain ⟨hlv, hle, hbr⟩ := hF.lv j hlt
    have hkk := hk2 (by rw [hpart]; obtain ⟨k, a, l, e, h⟩ := hbr; exact ⟨k, a, l, e, h⟩)
    have e0 : ((kk : Int) == 0) = false := by simp; omega
    have hTl := hF.Tl
    have hHd := hF.head
    have hcl := lv_all _ (wfs_mem _ hF.wf _ (List.getElem_mem hial)) wr _ a' fp' _ hnkr (by rw [hpart]; omega)
    rw [hpart] at hcl
    have a0 : IntKind.i64.wrap ((Tr.frmK ks j : Int) + (Tr.lvP ks[j].part : Int)) = (Tr.frmK ks (j + 1) : Int) := by rw [IntWalk.i64_in _ (by omega)]; omega
    have hfj := hF.first j hlt
    have HB := Lib.hid (bgC_take ks j hlt)
    rw [hfj] at HB
    have Hlt := Lib.hid hlt
    have Hm := Lib.hid hm
    have Hle := Lib.hid hle
    have HTl := Lib.hid hTl
    have HHd := Lib.hid hHd
    have Hka : Hid (j < kp → Tr.nextP T (Tr.frmK ks (j + 1)) < H) := hF.kp_at j
    have Hkn : Hid (j = kp → ¬ Tr.nextP T (Tr.frmK ks (j + 1)) < H) := fun e => by subst e; exact hF.kp_not hlt
    generalize Tr.lvP ks[j].part = n at *
    clear hpart hlv hle hbr hkk hk0 hk2 hnk hnkr hv hc hbl hFb hial hik hlt hm hi hTl hHd hfj ii0 Hj
    generalize hfj1 : Tr.frmK ks (j + 1) = fj1 at *
    have Hfj1 := Lib.hid hfj1
    clear hfj1
    generalize Tr.frmK ks j = fj at *
    go_wp2_with fail
    refine hcl.mono ?_
    clear hcl kc q0 k3
    rintro e w5 ⟨rfl, rfl⟩
    go_upto_if 75 with fail
    go_cut [16, 19] (fun v16 v19 wc => v16 = .int .i64 ((min (j + 1) kp : Nat) : Int) ∧ v19 = .bool (decide (j + 1 ≤ kp)) ∧ w5 = wc)
    case first =>
     by_cases hjk : j ≤ kp
     ·have e1 : decide (j ≤ kp) = true := by simp [hjk]
      have hmin : min j kp = j := by omega
      rw [hmin, e1]
      have Hjk := Lib.hid hjk
      clear hmin hjk e1
      have hfj1 : fj1 ≤ T.length := Hle.out
      go_wp2_with fail
      go_loopg [23] T.length (fun m v wc => ∃ y : Nat, v = .int .i64 (y : Int) ∧ Hid (Tr.nextP T y = Tr.nextP T fj1) ∧ y ≤ T.length ∧ T.length - y ≤ m ∧ w5 = wc)
      case atStart => exact ⟨fj1, rfl, rfl, hfj1, Nat.sub_le _ _, rfl⟩
      case round =>
       obtain ⟨y, rfl, Hy, hy, hm, rfl⟩ := hrel
       have y0 : (0 : Int) ≤ (y : Int) := by omega
       have c1 : IntKind.i64.wrap ((y : Int) + 1) = (y : Int) + 1 := IntWalk.i64_in _ (by have := HTl.out; omega)
       by_cases hyl : y < T.length
       ·have y1 : (y : Int) < (T.length : Int) := by omega
        obtain ⟨tb, to_, rfl, _, t0, t1x, t2x⟩ := Rd.tk (hrd.below hb) hyl
        clear t1x t2x
        have Hgo : Hid (Tr.blankT T[y] = true → Tr.nextP T (y + 1) = Tr.nextP T fj1) := fun h => by rw [← Tr.next_go T y hyl h]; exact Hy.out
        have Hst : Hid (Tr.blankT T[y] = false → Tr.nextP T fj1 = y) := fun h => by rw [← Hy.out]; exact Tr.next_stop T y hyl h
        have Hbt : Hid (Tr.blankT T[y] = (T[y].1 == 1 || T[y].1 == 2)) := rfl
        generalize T[y].1 = kd at *
        have Hyl := Lib.hid hyl
        have Hmm := Lib.hid hm
        by_cases k1 : kd = 1
        ·subst k1
         have Hb := Lib.hid (Hgo.out Hbt.out)
         clear Hbt Hgo Hst Hy hyl hm hy
         go_wp2_with fail
         go_roundg (T.length - (y + 1))
         case rel => exact ⟨y + 1, by go_num, Hb, by have := Hyl.out; omega, Nat.le_refl _, rfl⟩
         case measure => have := Hyl.out; have := Hmm.out; omega
        ·have f1 : ((kd : Int) == 1) = false := by simp; omega
         have g1 : (kd == 1) = false := by simpa using k1
         by_cases k2 : kd = 2
         ·subst k2
          have Hb := Lib.hid (Hgo.out Hbt.out)
          clear Hbt Hgo Hst Hy hyl hm hy k1 g1
          go_wp2_with fail
          go_roundg (T.length - (y + 1))
          case rel => exact ⟨y + 1, by go_num, Hb, by have := Hyl.out; omega, Nat.le_refl _, rfl⟩
          case measure => have := Hyl.out; have := Hmm.out; omega
         ·have f2 : ((kd : Int) == 2) = false := by simp; omega
          have g2 : (kd == 2) = false := by simpa using k2
          have hny := Hst.out (by rw [Hbt.out, g1, g2]; rfl)
          have Hka2 : Hid (j < kp → y < H) := fun h => by rw [← hny]; exact Hka.out h
          have Hkn2 : Hid (j = kp → ¬ y < H) := fun h => by rw [← hny]; exact Hkn.out h
          clear Hbt Hgo Hst Hy hyl hm hy k1 k2 g1 g2 hny
          by_cases hjlt : j < kp
          ·have hyH := Hka2.out hjlt
           have d1 : (y : Int) < (H : Int) := by omega
           have e3 : min (j + 1) kp = j + 1 := by omega
           have e4 : decide (j + 1 ≤ kp) = true := by simp; omega
           have c2 : IntKind.i64.wrap ((j : Int) + 1) = (j : Int) + 1 := IntWalk.i64_in _ (by have := hF.kp_le; have := Hlen.out; rw [HAl.out] at this; have := HTl.out; omega)
           have E3 := Lib.hid e3
           have E4 := Lib.hid e4
           clear Hka2 Hkn2 hjlt hyH e3 e4
           go_wp2_with fail
           go_meet
           exact ⟨by rw [E3.out]; go_num, by rw [E4.out], rfl⟩
          ·have hje : j = kp := by have := Hjk.out; omega
           have hyH := Hkn2.out hje
           have d1 : ¬ (y : Int) < (H : Int) := by omega
           have e3 : min (j + 1) kp = j := by omega
           have e4 : decide (j + 1 ≤ kp) = false := by simp; omega
           have E3 := Lib.hid e3
           have E4 := Lib.hid e4
           clear Hka2 Hkn2 hjlt hyH e3 e4 hje
           go_wp2_with fail
           go_meet
           exact ⟨by rw [E3.out], by rw [E4.out], rfl⟩
       ·have hye : y = T.length := by omega
        have y1 : ¬ (y : Int) < (T.length : Int) := by omega
        have hny : Tr.nextP T fj1 = y := by rw [← Hy.out]; exact Tr.next_end T y (by omega)
        have hjlt : ¬ j < kp := fun h => by have := Hka.out h; have := HHd.out; omega
        have hje : j = kp := by have := Hjk.out; omega
        have e3 : min (j + 1) kp = j := by omega
        have e4 : decide (j + 1 ≤ kp) = false := by simp; omega
        have E3 := Lib.hid e3
        have E4 := Lib.hid e4
        clear Hy hye hny hjlt hje e3 e4 hyl hm hy
        go_wp2_with fail
        go_meet
        exact ⟨by rw [E3.out], by rw [E4.out], rfl⟩
     ·have e1 : decide (j ≤ kp) = false := by simp; omega
      have hm1 : min j kp = min (j + 1) kp := by omega
      have e2 : decide (j + 1 ≤ kp) = false := by simp; omega
      rw [e1]
      have E2 := Lib.hid e2
      have M1 := Lib.hid hm1
      clear hm1 e2 hjk e1
      go_wp2_with fail
      go_meet
      exact ⟨by rw [M1.out], by rw [E2.out], rfl⟩
    case rest =>
    obtain ⟨rfl, rfl, rfl⟩ := hcut
    have c1 : IntKind.i64.wrap ((j : Int) + 1) = (j : Int) + 1 := IntWalk.i64_in _ (by have := Hlt.out; have := Hlen.out; rw [HAl.out] at this; have := HTl.out; omega)
    go_wp2_with (at_builtin; refine wpList_append_lies _ rfl _ _ 76 rfl w4.heap.size 3 i0 _ 1 8 Tryz.underlying76 ji jz0 jz1 jz2 rfl (by omega) (.slice Ab j cb) j (bgC (ks.take j)) rfl (hown.alloc (.cells #[.int .i64 (fj : Int)] 3)) ⟨w5.heap.size, 0, none⟩ 1 1 [.int .i64 (fj : Int)] rfl rfl (World.news_of_block (heap_alloc_new w5 _)) (by simp [Value.oneCell']) (by omega) (by have := Hlt.out; have := Hlen.out; rw [HAl.out] at this; have := HTl.out; unfold maxLen; omega) (by have := Hlt.out; have := Hlen.out; rw [HAl.out] at this; have := HTl.out; omega) (by have := hb.size; simp; omega) (w5.heap.size + 1) (by simp) ?_; intro gg cap' w6 hown6 hgrow hat hlt6; have hb6 := (hb.alloc (by have := hb.size; omega) (.cells #[.int .i64 (fj : Int)] 3)).grown hgrow (by have := hb.size; simp; omega) (fun y hy => (hown.lt y hy).1))
    go_wp2_with fail
    go_roundg (ks.length + ts.length - (j + 1))
    case rel => exact ⟨j + 1, j + 1, _, _, by go_num, by show _ = _; have := Hlt.out; omega, by have := Hlt.out; omega, Nat.le_refl _, rfl, by rw [Hfj1.out], rfl, rfl, by rw [HB.out]; exact hown6, hb6⟩
    case measure => have := Hlt.out; have := Hm.out; omega
   ·have hpart : ∃ k t a, (ks.map (·.part) ++ ts)[i] = .leaf k t a := by
     rw [List.getElem_append_right (by rw [List.length_map]; omega)]
     exact hF.tail _ (List.getElem_mem _)
    have hkk := hk0 hpart
    subst hkk
    have Hlt := Lib.hid hik
    have Hi2 := Lib.hid hlt
    have Hm := Lib.hid hm
    have c1 : IntKind.i64.wrap ((i : Int) + 1) = (i : Int) + 1 := IntWalk.i64_in _ (by have := Hlt.out; have := Hlen.out; rw [HAl.out] at this; have := hF.Tl; omega)
    clear hpart hk0 hk2 hnk hnkr hv hc hbl hFb hial hik hlt hm hi
    go_wp2_with fail
    go_roundg (ks.length + ts.length - (i + 1))
    case rel => exact ⟨i + 1, j, Ab, cb, by go_num, by show _ = _; have := Hj.out; have := Hi2.out; omega, by have := Hlt.out; omega, Nat.le_refl _, rfl, rfl, rfl, rfl, hown, hb⟩
    case measure => have := Hlt.out; have := Hm.out; omega
  ·have hie : i = ks.length + ts.length := by omega
   have i1' : ¬ (i : Int) < ((ks.length + ts.length : Nat) : Int) := by omega
   have hj : j = ks.length := by have := Hj.out; omega
   subst hj
   have hmk : min ks.length kp = kp := by have := hF.kp_le; omega
   rw [hmk]
   rw [List.take_length] at hown
   have hbg := Rd.of_own hown
   have Hbg : Hid (∀ w', Below wr.heap.size wr w' → ∀ j (h : j < ks.length), ∃ bb bo, Ab = some ⟨bb, bo, none⟩ ∧ bb < wr.heap.size ∧ w'.cell? ⟨bb, bo + j, none⟩ = some (.int .i64 (Tr.frmK ks j : Int))) := fun w' hbw j h => by
    obtain ⟨bb, bo, e, hbl, hc⟩ := hbg.2 (by omega)
    have h0 := hc j _ (bgC_get ks j h)
    rw [hF.first j h] at h0
    exact ⟨bb, bo, e, hbl, (hbw.cell (p := ⟨bb, bo + j, none⟩) hbl).trans h0⟩
   have hrd'r := hrd'.below hb
   have hsz := hb.size
   have hbw := hb4.trans (hb.mono hb4.size)
   clear hie hik hi hm hmk hown hbg Hj hr hps hBq hrd hFq
   have hd5 : Below wr.heap.size wr (wr.alloc (.cells #[.string ⟨now.toArray⟩, .slice A2 T'.length c2, .int .i64 0, .int .i64 0, .bool false] 119)) := (Below.refl _ _).alloc (Nat.le_refl _) _
   have hRb : Blk (wr.alloc (.cells #[.string ⟨now.toArray⟩, .slice A2 T'.length c2, .int .i64 0, .int .i64 0, .bool false] 119)) wr.heap.size 119 #[.string ⟨now.toArray⟩, .slice A2 T'.length c2, .int .i64 0, .int .i64 0, .bool false] := Blk.new _ _ _
   obtain ⟨g, hg⟩ : ∃ g, g = wr.heap.size := ⟨_, rfl⟩
   have hgl : g < (wr.alloc (.cells #[.string ⟨now.toArray⟩, .slice A2 T'.length c2, .int .i64 0, .int .i64 0, .bool false] 119)).heap.size := by rw [hg]; simp
   have hrow5 : RowF (wr.alloc (.cells #[.string ⟨now.toArray⟩, .slice A2 T'.length c2, .int .i64 0, .int .i64 0, .bool false] 119)) (fun x => Old (wr.alloc (.cells #[.string ⟨now.toArray⟩, .slice A2 T'.length c2, .int .i64 0, .int .i64 0, .bool false] 119)) x ∧ x ≠ g) A2 (tksC T') := fun hn => by
    obtain ⟨b, o, e, hbl, hc⟩ := hrd'r.2 (by have := tksC_len T'; omega)
    exact ⟨b, o, e, ⟨Nat.lt_of_lt_of_le hbl (by have := hd5.size; omega), by omega⟩, Nat.lt_of_lt_of_le hbl (by have := hd5.size; omega), fun j u hu => (World.cell?_of_block (a := ⟨b, o + j, none⟩) (hd5.block b (by omega))).trans (hc j u hu)⟩
   rw [← hg] at hRb
   have Hg : Hid (g = wr.heap.size) := hg
   go_upto_region 26 with fail
   rw [← hg]
   clear hg hrd'r k3
   generalize (wr.alloc (.cells #[.string ⟨now.toArray⟩, .slice A2 T'.length c2, .int .i64 0, .int .i64 0, .bool false] 119)) = w5 at *
   go_upto_if 124 with fail
   go_cut [] (fun wc => Blk wc g 119 #[.string ⟨now.toArray⟩, .slice A2 T'.length c2, .int .i64 (Tr.frmK ks kp : Int), .int .i64 0, .bool false] ∧ Aft (Old w5) g w5 wc)
   case first =>
    by_cases hk0 : kp = 0
    ·have k1 : ¬ (0 : Int) < (kp : Int) := by omega
     have e0 : Tr.frmK ks kp = 0 := by rw [hk0]; rfl
     have E0 := Lib.hid e0
     clear hk0 e0
     go_wp2_with fail
     go_meet
     exact ⟨by rw [E0.out]; exact hRb, Aft.refl _ _ _⟩
    ·have k1 : (0 : Int) < (kp : Int) := by omega
     have hkl := hF.kp_lt (by have := hF.kp_le; omega)
     have k2 : (kp : Int) < (ks.length : Int) := by omega
     have k4 : (0 : Int) ≤ (kp : Int) := by omega
     have r2 := hRb.cell 2
     have rf := hRb.frozen 2
     simp at r2
     have hR6 := hRb.set_ 2 (.int .i64 (T.length : Int))
     simp at hR6
     have hA6 := (Aft.refl (Old w5) g w5).set 2 (.int .i64 (T.length : Int))
     have hbw6 := hd5.setCell (p := ⟨g, 2, none⟩) (by rw [Hg.out]; exact Nat.le_refl _) (.int .i64 (T.length : Int))
     obtain ⟨bb, bo, rfl, _, q0⟩ := Hbg.out _ hbw6 kp hkl
     clear hk0 hkl Hbg
     go_upto_region 28 with fail
     clear r2 rf
     generalize w5.setCell ⟨g, 2, none⟩ (.int .i64 (T.length : Int)) = w6 at *
     have r2 := hR6.cell 2
     have rf := hR6.frozen 2
     simp at r2
     have hR7 := hR6.set_ 2 (.int .i64 (Tr.frmK ks kp : Int))
     simp at hR7
     have hA7 := hA6.set 2 (.int .i64 (Tr.frmK ks kp : Int))
     go_wp2_with fail
     go_meet
     exact ⟨hR7, hA7⟩
   case rest =>
   obtain ⟨hR6, hA6⟩ := hcut
   have R : Rdq wc (Old w5) g now T' A2 c2 0 (Tr.frmK ks kp) false := ⟨hR6, hrow5.keep hA6.size fun x hx _ => ⟨hA6.oth x hx.1 hx.2, hx⟩, hgl, fun x hx => Nat.lt_of_lt_of_le hx hA6.size, hF.from_le⟩
   have hkd := rkindn_walk X' R
   have HbA : Hid (∀ w', Aft (Old w5) g w5 w' → ∀ j (h : j < ks.length), ∃ bb bo, Ab = some ⟨bb, bo, none⟩ ∧ w'.cell? ⟨bb, bo + j, none⟩ = some (.int .i64 (Tr.frmK ks j : Int))) := fun w' hA' j h => by
    obtain ⟨bb, bo, e, _, hc⟩ := Hbg.out w' (hd5.trans (hA'.toBelow hd5.size (by rw [Hg.out]; exact Nat.le_refl _))) j h
    exact ⟨bb, bo, e, hc⟩
   have hfl := hF.from_le
   have hbe : ∀ w', Aft (Old w5) g w5 w' → Below w.heap.size w w' := fun w' hA' => (hbw.trans (hd5.mono (by have := hbw.size; omega))).trans (hA'.toBelow (by have := hbw.size; have := hd5.size; omega) (by have := hbw.size; have := Hg.out; omega))
   have Hbe := Lib.hid hbe
   clear Hbg hbe
   have HN : Hid (0 + cn (Tr.frmK ks kp) = N) := by show _ = _; rw [hF.N]; omega
   clear hRb hR6 hrow5 hgl
   generalize Tr.frmK ks kp = fk at *
   go_wp2_with fail
   refine hkd.mono ?_
   clear hkd
   rintro e w6 ⟨rfl, rfl⟩
   go_wp2_with fail
   go_loopg [25, 26] (T'.length) (fun m v25 v26 wr' => ∃ (i a : Nat) (cut : Bool), v25 = .int .i64 (a : Int) ∧ v26 = .int .i64 (Tr.kindP T' (Tr.nextP T' i) : Int) ∧ T'.length - i ≤ m ∧ a ≤ i ∧ Hid (a + cn i = N) ∧ Rdq wr' (Old w5) g now T' A2 c2 0 i cut ∧ Aft (Old w5) g w5 wr')
   case atStart => exact ⟨fk, 0, false, rfl, rfl, Nat.sub_le _ _, Nat.zero_le _, HN, R, hA6⟩
   case round =>
    clear R hA6 HN
    obtain ⟨i, a, cut, rfl, rfl, hm, hai, HN, R, hA⟩ := hrel
    have hi := R.hi
    have hTl' := hF.Tl'
    by_cases hnx : Tr.nextP T' i < T'.length
    ·have hne : ¬ Tr.kindP T' (Tr.nextP T' i) = 0 := fun e => (tr_kind0 X'.good i).1 e hnx
     have e0 : ((Tr.kindP T' (Tr.nextP T' i) : Int) != 0) = true := by
      rw [bne, beq_eq_false_iff_ne.2 (by omega)]
      rfl
     have hgt := Tr.kid_gt now T' i hi hnx
     obtain ⟨_, _, g2, _, _⟩ := R.cells
     have a1 : IntKind.i64.wrap ((T'.length : Int) - ((T.length : Int) - (Bh : Int))) = ((H + an : Nat) : Int) := by
      have h0 := hF.bl
      rw [h0]
      exact IntWalk.i64_in _ (by have := hF.blen; have := hF.Tl; omega)
     have hTl := hF.Tl
     have Hi := Lib.hid hi
     have Hm := Lib.hid hm
     have Hai := Lib.hid hai
     have Hgt := Lib.hid hgt
     have Hnx := Lib.hid hnx
     clear hm hgt hne hai hnx
     generalize Tr.kindP T' (Tr.nextP T' i) = kd at *
     go_upto_if 153 with fail
     have g2n : ∀ n, (wr.drewN n).cell? ⟨g, 2, none⟩ = some (.int .i64 (i : Int)) := fun n => g2
     have HA : Hid (∀ n, Aft (Old w5) g w5 (wr.drewN n)) := fun n => hA.drewN n
     go_cut [] (fun wc => (∃ n, wr.drewN n = wc) ∧ Hid (st i = false))
     case first =>
      by_cases hge : H + an ≤ i
      ·have k1 : ((H + an : Nat) : Int) ≤ (i : Int) := by omega
       have a2 : IntKind.i64.wrap ((i : Int) - (T'.length : Int)) = (i : Int) - (T'.length : Int) := IntWalk.i64_in _ (by have := Hi.out; omega)
       have a3 : IntKind.i64.wrap ((i : Int) - (T'.length : Int) + (T.length : Int)) = (i : Int) - (T'.length : Int) + (T.length : Int) := IntWalk.i64_in _ (by have := Hi.out; omega)
       have Hge := Lib.hid hge
       clear hge a1
       go_wp2_with fail
       go_loopg [27] ks.length (fun m v wc => ∃ (j n : Nat), v = .int .i64 (j : Int) ∧ j ≤ ks.length ∧ ks.length - j ≤ m ∧ Hid (∀ j' (h : j' < ks.length), j' < j → (ks[j'].first : Int) ≠ (i : Int) - (T'.length : Int) + (T.length : Int)) ∧ wr.drewN n = wc)
       case atStart => exact ⟨0, 0, rfl, Nat.zero_le _, Nat.le_refl _, fun _ _ h => absurd h (by omega), rfl⟩
       case round =>
        obtain ⟨j, n, rfl, hj, hm, Hno, rfl⟩ := hrel
        by_cases hjl : j < ks.length
        ·have j0 : (0 : Int) ≤ (j : Int) := by omega
         have j1 : (j : Int) < (ks.length : Int) := by omega
         have c1 : IntKind.i64.wrap ((j : Int) + 1) = (j : Int) + 1 := IntWalk.i64_in _ (by have := Hlen.out; rw [HAl.out] at this; omega)
         obtain ⟨bb, bo, rfl, _⟩ := HbA.out _ (HA.out n) j hjl
         have q0 : ∀ n, (wr.drewN n).cell? ⟨bb, bo + j, none⟩ = some (.int .i64 (Tr.frmK ks j : Int)) := fun n => by
          obtain ⟨bb', bo', e, hc⟩ := HbA.out _ (HA.out n) j hjl
          have e' := Option.some.inj e
          simp only [Addr.mk.injEq, and_true] at e'
          obtain ⟨rfl, rfl⟩ := e'
          exact hc
         have g2m := g2n n
         have q0m := q0 n
         have hfi := hF.first j hjl
         have Hjl := Lib.hid hjl
         have Hmm := Lib.hid hm
         have hdr := fun m => World.drewN_drewN wr n m
         by_cases he : (Tr.frmK ks j : Int) = (i : Int) - (T'.length : Int) + (T.length : Int)
         ·have e1 : ((Tr.frmK ks j : Int) == (i : Int) - (T'.length : Int) + (T.length : Int)) = true := by simp [he]
          have hst := hF.yes i j hjl Hge.out (by rw [hfi]; exact he)
          have h0 := hF.sto i (fun h => by rw [hst] at h; exact absurd h.2 (by simp))
          have HaN : Hid (a = N) := by show _ = _; have := HN.out; omega
          clear hfi he hst h0 hjl hm hj Hno
          generalize Tr.frmK ks j = fj at *
          go_wp2_with fail
          go_quiet (fail)
          go_wp2_with fail
          go_ret
          exact ⟨by rw [← HaN.out]; rfl, Hbe.out _ (by first | exact HA.out _ | (rw [hdr]; exact HA.out _))⟩
         ·have e1 : ((Tr.frmK ks j : Int) == (i : Int) - (T'.length : Int) + (T.length : Int)) = false := by simpa using he
          have Hno2 : Hid (∀ j' (h : j' < ks.length), j' < j + 1 → (ks[j'].first : Int) ≠ (i : Int) - (T'.length : Int) + (T.length : Int)) := fun j' h hlt => by
           rcases Nat.eq_or_lt_of_le (Nat.le_of_lt_succ hlt) with e | hlt
           ·subst e; rw [hfi]; exact he
           ·exact Hno.out j' h hlt
          clear hfi he hjl hm hj Hno
          generalize Tr.frmK ks j = fj at *
          go_wp2_with fail
          go_quiet (fail)
          go_wp2_with fail
          go_roundg (ks.length - (j + 1))
          case rel => exact ⟨j + 1, _, by go_num, by have := Hjl.out; omega, Nat.le_refl _, Hno2, rfl⟩
          case measure => have := Hjl.out; have := Hmm.out; omega
        ·have hjk : j = ks.length := by omega
         subst hjk
         have j1 : ¬ (ks.length : Int) < (ks.length : Int) := by omega
         have hst := hF.no i (fun j' h => Hno.out j' h h)
         clear hjl hm hj Hno
         go_wp2_with fail
         go_meet
         exact ⟨⟨n, rfl⟩, hst⟩
      ·have k1 : ¬ ((H + an : Nat) : Int) ≤ (i : Int) := by omega
       have hst := hF.low i (by omega)
       clear hge
       go_wp2_with fail
       go_meet
       exact ⟨⟨0, rfl⟩, hst⟩
     case rest =>
     obtain ⟨⟨n, rfl⟩, Hst⟩ := hcut
     have R := R.below (below_drewN (Below.refl _ _) n)
     have hA := HA.out n
     have hit := ritem_walk X' hW' R.old Hnx.out
     have HN2 : Hid (a + 1 + cn (Tr.kidP now T' i).2 = N) := by
      show _ = _
      have h0 := hF.stp i Hi.out Hnx.out Hst.out
      have := HN.out
      omega
     clear HN HA g2n g2 a1
     generalize wr.drewN n = w6 at *
     go_wp2_with fail
     refine hit.mono ?_
     clear hit
     intro e1 w7 h7
     obtain ⟨hp0, rfl, hA7, R7, _⟩ := h7
     have hA7 := hA7.old R.inK
     have R := R.from_old R7 hA7
     have hA := hA.trans hA7
     clear hA7 R7
     have hkd := rkindn_walk X' R
     have c1 : IntKind.i64.wrap ((a : Int) + 1) = (a : Int) + 1 := IntWalk.i64_in _ (by have := Hai.out; have := Hi.out; omega)
     generalize (Tr.kidP now T' i).2 = i2 at *
     go_wp2_with fail
     refine hkd.mono ?_
     clear hkd
     rintro e1 w8 ⟨rfl, rfl⟩
     go_wp2_with fail
     go_roundg (T'.length - i2)
     case rel => exact ⟨i2, a + 1, _, by go_num, rfl, Nat.le_refl _, by have := Hgt.out; have := Hai.out; omega, HN2, R, hA⟩
     case measure => have := Hgt.out; have := R.hi; have := Hm.out; omega
    ·have hk0 : Tr.kindP T' (Tr.nextP T' i) = 0 := (tr_kind0 X'.good i).2 hnx
     have h0 := hF.sto i (fun h => hnx h.1)
     have haN : a = N := by have := HN.out; omega
     subst haN
     rw [hk0]
     clear hk0 h0 hnx hm hai HN
     go_wp2_with fail
     go_ret
     exact ⟨rfl, Hbe.out _ hA⟩
theorem to_leaf (a : Addr) (w : World) : (method 517 104 (.pointer (some a)) "To").run Tryz.prog w = .ok (311, .pointer (some a)) w := by kernel_rfl
theorem to_gap (a : Addr) (w : World) : (method 517 107 (.pointer (some a)) "To").run Tryz.prog w = .ok (314, .pointer (some a)) w := by kernel_rfl
theorem to_branch (a : Addr) (w : World) : (method 517 90 (.pointer (some a)) "To").run Tryz.prog w = .ok (307, .pointer (some a)) w := by kernel_rfl
theorem tnil (t : Nat) (ht : t = 104 ∨ t = 107 ∨ t = 90) (a : Addr) (w : World) : (nilAhead 517 t (.pointer (some a)) "To").run Tryz.prog w = .ok (some false) w := by
 rcases ht with rfl | rfl | rfl <;> kernel_rfl
theorem as_leaf_leaf (a : Addr) (w : World) : (Instr.typeAssert (.iface 104 (.pointer (some a))) 94 104 true).run Tryz.prog w = .ok (.tuple #[.pointer (some a), .bool true]) w := by kernel_rfl
theorem as_leaf_branch (a : Addr) (w : World) : (Instr.typeAssert (.iface 104 (.pointer (some a))) 94 90 true).run Tryz.prog w = .ok (.tuple #[.pointer none, .bool false]) w := by kernel_rfl
theorem as_gap_leaf (a : Addr) (w : World) : (Instr.typeAssert (.iface 107 (.pointer (some a))) 94 104 true).run Tryz.prog w = .ok (.tuple #[.pointer none, .bool false]) w := by kernel_rfl
theorem as_gap_gap (a : Addr) (w : World) : (Instr.typeAssert (.iface 107 (.pointer (some a))) 94 107 true).run Tryz.prog w = .ok (.tuple #[.pointer (some a), .bool true]) w := by kernel_rfl
theorem as_gap_branch (a : Addr) (w : World) : (Instr.typeAssert (.iface 107 (.pointer (some a))) 94 90 true).run Tryz.prog w = .ok (.tuple #[.pointer none, .bool false]) w := by kernel_rfl
theorem as_branch_leaf (a : Addr) (w : World) : (Instr.typeAssert (.iface 90 (.pointer (some a))) 94 104 true).run Tryz.prog w = .ok (.tuple #[.pointer none, .bool false]) w := by kernel_rfl
theorem as_branch_gap (a : Addr) (w : World) : (Instr.typeAssert (.iface 90 (.pointer (some a))) 94 107 true).run Tryz.prog w = .ok (.tuple #[.pointer none, .bool false]) w := by kernel_rfl
theorem as_branch_branch (a : Addr) (w : World) : (Instr.typeAssert (.iface 90 (.pointer (some a))) 94 90 true).run Tryz.prog w = .ok (.tuple #[.pointer (some a), .bool true]) w := by kernel_rfl
def ToE (p : Tr.PT) (w : World) (e : Ending) (w' : World) : Prop := e = .returned (.int .i64 (p.to_ : Int)) ∧ ∃ n, w' = w.drewN n
def ToC (p : Tr.PT) : Prop := ∀ (w : World) (F : Nat → Prop) (v : Value), PtF w F p v → p.to_ ≤ 1000000000000 → ∃ t q f, v = .iface t (.pointer (some ⟨q, 0, none⟩)) ∧
 (∀ w, (nilAhead 517 t (.pointer (some ⟨q, 0, none⟩)) "To").run Tryz.prog w = .ok (some false) w) ∧
 (∀ w, (method 517 t (.pointer (some ⟨q, 0, none⟩)) "To").run Tryz.prog w = .ok (f, .pointer (some ⟨q, 0, none⟩)) w) ∧
 (∀ (args : Array Value) (w : World), (callFunc f args).run Tryz.prog w = .ok (.enter f args) w) ∧
 ∀ w', Below w.heap.size w w' → Calls Tryz.prog f #[.pointer (some ⟨q, 0, none⟩)] w' (ToE p w')
set_option maxHeartbeats 4000000 in
set_option maxRecDepth 100000 in
theorem leaf_to {w : World} {q : Nat} {k a : Nat} {t : Bs} (hB : Blk w q 106 #[.int .i64 (k : Int), .string ⟨t.toArray⟩, .int .i64 (a : Int)]) (hto : a + t.length ≤ 1000000000000) :
  Calls Tryz.prog 311 #[.pointer (some ⟨q, 0, none⟩)] w (ToE (.leaf k t a) w) := by
 have b1 := hB.cell 1
 have b2 := hB.cell 2
 simp at b1 b2
 have a0 : IntKind.i64.wrap ((a : Int) + (t.length : Int)) = (a : Int) + (t.length : Int) := IntWalk.i64_in _ (by omega)
 have HP : Hid (Tr.PT.to_ (.leaf k t a) = a + t.length) := by show _ = _; unfold Tr.PT.to_; rfl
 clear hB hto
 go_enter Tryz.func311, Tryz.ntmps311
 go_wp2_with fail
 go_quiet (fail)
 go_wp2_with fail
 go_ret
 exact ⟨by rw [HP.out]; simp, _, rfl⟩
set_option maxHeartbeats 4000000 in
set_option maxRecDepth 100000 in
theorem gap_to {w : World} {q : Nat} {a : Nat} {t : Bs} {d : Bool} (hB : Blk w q 297 #[.string ⟨t.toArray⟩, .int .i64 (a : Int), .bool d]) :
  Calls Tryz.prog 314 #[.pointer (some ⟨q, 0, none⟩)] w (ToE (.gap t a d) w) := by
 have b1 := hB.cell 1
 simp at b1
 have HP : Hid (Tr.PT.to_ (.gap t a d) = a) := by show _ = _; unfold Tr.PT.to_; rfl
 clear hB
 go_enter Tryz.func314, Tryz.ntmps314
 go_wp2
 go_ret
 exact ⟨by rw [HP.out]; rfl, 0, rfl⟩
theorem last_to : ∀ (l : List Tr.PT) (a : Nat) (h : 0 < l.length), Tr.lastTo a l = (l[l.length - 1]'(by omega)).to_
 | [], _, h => absurd h (by simp)
 | [p], a, _ => by unfold Tr.lastTo Tr.lastTo; rfl
 | p :: q :: l, a, _ => by
  unfold Tr.lastTo
  have := last_to (q :: l) p.to_ (by simp)
  rw [this]
  rfl
set_option maxHeartbeats 4000000 in
set_option maxRecDepth 100000 in
theorem branch_to {w w' : World} {F : Nat → Prop} {q k a : Nat} {l : List Tr.PT} {A : Option Addr} {c : Nat} {vs : List Value} (hB : Blk w q 109 #[.int .i64 (k : Int), .slice A l.length c, .int .i64 (a : Int)]) (hrow : RowF w F A vs) (hp : PtsF w F l vs) (hl : l.length ≤ 1000000000) (hto : Tr.lastTo a l ≤ 1000000000000) (IH : ∀ p ∈ l, ToC p) (hb : Below w.heap.size w w') :
  Calls Tryz.prog 307 #[.pointer (some ⟨q, 0, none⟩)] w' (ToE (.branch k a l) w') := by
 have hB' := hB.below hb hB.lt
 have HP : Hid (Tr.PT.to_ (.branch k a l) = Tr.lastTo a l) := by show _ = _; unfold Tr.PT.to_; rfl
 have b1 := hB'.cell 1
 have b2 := hB'.cell 2
 simp at b1 b2
 by_cases h0 : 0 < l.length
 ·have hlt : l.length - 1 < l.length := by omega
  have hlast := last_to l a h0
  rw [hlast] at HP hto
  obtain ⟨v, hv, hpv⟩ := hp.at_ hlt
  obtain ⟨t, qp, f, rfl, hni, hme, hcf, hcl⟩ := IH l[l.length - 1] (List.getElem_mem hlt) w F v hpv hto
  obtain ⟨br, o, rfl, hcell⟩ := hrow.at_ hv
  have hbl := World.block_lt_of_cell? w ⟨br, o + (l.length - 1), none⟩ hcell
  have q0 := (hb.cell (p := ⟨br, o + (l.length - 1), none⟩) hbl).trans hcell
  have hcl := hcl w' hb
  have i0 : (0 : Int) < (l.length : Int) := by omega
  have a0 : IntKind.i64.wrap ((l.length : Int) - 1) = ((l.length - 1 : Nat) : Int) := by rw [IntWalk.i64_in _ (by omega)]; omega
  generalize l[l.length - 1] = p at *
  have i1 : ((l.length - 1 : Nat) : Int) < (l.length : Int) := by omega
  have i2 : (0 : Int) ≤ ((l.length - 1 : Nat) : Int) := by omega
  generalize l.length - 1 = j at *
  clear hpv hv hcell hbl hlt hlast hto hB' hB hrow hp IH h0 b2
  go_enter Tryz.func307, Tryz.ntmps307
  go_wp2_with fail
  refine hcl.mono ?_
  clear hcl
  rintro e w1 ⟨rfl, n, rfl⟩
  go_wp2_with fail
  go_ret
  exact ⟨by rw [HP.out]; rfl, n, rfl⟩
 ·obtain rfl : l = [] := by cases l; rfl; simp at h0
  have HP : Hid (Tr.PT.to_ (.branch k a []) = a) := by show _ = _; rw [HP.out]; unfold Tr.lastTo; rfl
  clear hB' hB hrow hp IH hto h0 hl
  go_enter Tryz.func307, Tryz.ntmps307
  go_wp2
  go_ret
  exact ⟨by rw [HP.out]; rfl, 0, rfl⟩
mutual
theorem to_all : ∀ p : Tr.PT, Tr.wfP p → ToC p
 | .leaf k t a, _ => fun w F v h hto => by
  obtain ⟨q, rfl, hF, hB⟩ := h
  exact ⟨_, q, _, rfl, fun w => tnil _ (.inl rfl) _ w, fun w => to_leaf _ w, fun _ _ => by kernel_rfl, fun w' hb => leaf_to (hB.below hb hB.lt) (by unfold Tr.PT.to_ at hto; exact hto)⟩
 | .gap t a d, _ => fun w F v h hto => by
  obtain ⟨q, rfl, hF, hB⟩ := h
  exact ⟨_, q, _, rfl, fun w => tnil _ (.inr (.inl rfl)) _ w, fun w => to_gap _ w, fun _ _ => by kernel_rfl, fun w' hb => gap_to (hB.below hb hB.lt)⟩
 | .branch k a l, hw => fun w F v h hto => by
  unfold Tr.wfP at hw
  unfold Tr.PT.to_ at hto
  obtain ⟨q, rfl, hF, A, c, vs, hB, hc, hr, hp⟩ := h
  exact ⟨_, q, _, rfl, fun w => tnil _ (.inr (.inr rfl)) _ w, fun w => to_branch _ w, fun _ _ => by kernel_rfl, fun w' hb => branch_to hB hr hp hw.2.1 hto (tos_all l hw.2.2) hb⟩
theorem tos_all : ∀ l : List Tr.PT, Tr.wfsP l → ∀ p ∈ l, ToC p
 | [], _, p, hp => absurd hp (by simp)
 | q :: l, hw, p, hp => by
  unfold Tr.wfsP at hw
  rcases List.mem_cons.1 hp with he | hp
  ·rw [he]; exact to_all q hw.1
  ·exact tos_all l hw.2 p hp
end
end Go.Proofs.YtalklmeejdmifaaGreatDoor
namespace Go.Proofs.YtalklmeejdmifaaGreatDoor.Tr
mutual
def walkP {σ : Type} (f : PT → σ → σ) : PT → σ → σ
 | .leaf k t a, x => f (.leaf k t a) x
 | .gap t a d, x => f (.gap t a d) x
 | .branch k a l, x => walksP f l (f (.branch k a l) x)
def walksP {σ : Type} (f : PT → σ → σ) : List PT → σ → σ
 | [], x => x
 | p :: l, x => walksP f l (walkP f p x)
end
theorem walks_app {σ : Type} (f : PT → σ → σ) : ∀ (l m : List PT) (x : σ), walksP f (l ++ m) x = walksP f m (walksP f l x)
 | [], m, x => by simp only [List.nil_append, walksP]
 | p :: l, m, x => by simp only [List.cons_append, walksP, walks_app f l m]
def stepS : PT → Int → Int
 | .leaf k _ a, x => if x < 0 ∧ ¬ (k = 1 ∨ k = 2) then (a : Int) else x
 | _, x => x
theorem step_leaf (k : Nat) (t : List UInt8) (a : Nat) (x : Int) : stepS (.leaf k t a) x = if x < 0 ∧ ¬ (k = 1 ∨ k = 2) then (a : Int) else x := rfl
def startI (p : PT) : Int := walkP stepS p (-1)
def startOf (p : PT) : Int := if startI p < 0 then (PT.to_ p : Int) else startI p
abbrev Nt := Int × Int × Nat
def noteP (b : Nat) : PT → List Nt
 | .leaf k t a => if k = 8 then [(((b + a : Nat) : Int), ((b + (a + t.length) : Nat) : Int), 3)] else []
 | .gap _ a _ => [(((b + a : Nat) : Int), ((b + a : Nat) : Int), 9)]
 | .branch k a l => if k = 5 then [((b : Int) + startOf (.branch k a l), ((b + PT.to_ (.branch k a l) : Nat) : Int), 3)] else []
theorem note_leaf (b k : Nat) (t : List UInt8) (a : Nat) : noteP b (.leaf k t a) = if k = 8 then [(((b + a : Nat) : Int), ((b + (a + t.length) : Nat) : Int), 3)] else [] := rfl
theorem note_gap (b : Nat) (t : List UInt8) (a : Nat) (d : Bool) : noteP b (.gap t a d) = [(((b + a : Nat) : Int), ((b + a : Nat) : Int), 9)] := rfl
theorem note_branch (b k a : Nat) (l : List PT) : noteP b (.branch k a l) = if k = 5 then [((b : Int) + startOf (.branch k a l), ((b + PT.to_ (.branch k a l) : Nat) : Int), 3)] else [] := rfl
def stepN (b : Nat) (p : PT) (out : List Nt) : List Nt := out ++ noteP b p
mutual
def rnotesP : PT → Nat → List Nt
 | .leaf k t _, a => if k = 8 then [((a : Int), ((a + t.length : Nat) : Int), 3)] else []
 | .gap _ _ _, a => [((a : Int), (a : Int), 9)]
 | .branch k x l, a => (if k = 5 then [((putP (.branch k x l) a).from_, (putP (.branch k x l) a).to_, 3)] else []) ++ rnotessP l a
def rnotessP : List PT → Nat → List Nt
 | [], _ => []
 | p :: l, a => rnotesP p a ++ rnotessP l (putP p a).end_
end
mutual
def okP (b : Nat) : PT → Nat → Prop
 | .leaf _ _ x, a => b + x = a
 | .gap _ x _, a => b + x = a
 | .branch k x l, a => b + x = a ∧ oksP b l a ∧ (k = 5 → 0 ≤ (putP (.branch k x l) a).from_ ∧ (putP (.branch k x l) a).to_ = ((putP (.branch k x l) a).end_ : Int))
def oksP (b : Nat) : List PT → Nat → Prop
 | [], _ => True
 | p :: l, a => okP b p a ∧ oksP b l (putP p a).end_
end
theorem ok_from {b a : Nat} : ∀ {p : PT}, okP b p a → b + p.from_ = a
 | .leaf _ _ _, h => h
 | .gap _ _ _, h => h
 | .branch _ _ _, h => h.1
mutual
theorem ok_to {b : Nat} : ∀ (p : PT) (a : Nat), okP b p a → b + p.to_ = a + wideP p
 | .leaf _ t x, a, h => by
  unfold okP at h
  unfold PT.to_ wideP
  omega
 | .gap _ x _, a, h => by
  unfold okP at h
  unfold PT.to_ wideP
  omega
 | .branch k x l, a, h => by
  unfold okP at h
  unfold PT.to_ wideP
  exact oks_to l a x h.2.1 h.1
theorem oks_to {b : Nat} : ∀ (l : List PT) (a x : Nat), oksP b l a → b + x = a → b + lastTo x l = a + widesP l
 | [], a, x, _, e => by unfold lastTo widesP; omega
 | p :: l, a, x, h, e => by
  unfold oksP at h
  unfold lastTo widesP
  have h1 := ok_to p a h.1
  have h2 := put_end p a
  have h3 := oks_to l (putP p a).end_ p.to_ h.2 (by omega)
  omega
end
theorem oks_app {b : Nat} : ∀ (l m : List PT) (a : Nat), oksP b l a → oksP b m (a + widesP l) → oksP b (l ++ m) a
 | [], m, a, _, h => by simpa [widesP] using h
 | p :: l, m, a, h, hm => by
  unfold oksP at h
  simp only [List.cons_append, oksP]
  refine ⟨h.1, oks_app l m _ h.2 ?_⟩
  rw [put_end]
  unfold widesP at hm
  rwa [Nat.add_assoc]
mutual
theorem start_stay : ∀ (p : PT) (x : Int), 0 ≤ x → walkP stepS p x = x
 | .leaf k t a, x, h => by unfold walkP; rw [step_leaf, if_neg (by omega)]
 | .gap t a d, x, h => by unfold walkP; rfl
 | .branch k a l, x, h => by unfold walkP; rw [show stepS (.branch k a l) x = x from rfl]; exact starts_stay l x h
theorem starts_stay : ∀ (l : List PT) (x : Int), 0 ≤ x → walksP stepS l x = x
 | [], x, _ => by unfold walksP; rfl
 | p :: l, x, h => by unfold walksP; rw [start_stay p x h]; exact starts_stay l x h
end
def RelS (b : Nat) (x f : Int) : Prop := (x = -1 ∧ f = -1) ∨ (0 ≤ x ∧ f = b + x)
mutual
theorem start_put {b : Nat} : ∀ (p : PT) (a : Nat), okP b p a → RelS b (walkP stepS p (-1)) (putP p a).from_
 | .leaf k t x, a, h => by
  unfold okP at h
  unfold walkP putP
  rw [step_leaf]
  by_cases hk : k = 1 ∨ k = 2
  ·rw [if_neg (fun e => e.2 hk), if_pos hk]; exact .inl ⟨rfl, rfl⟩
  ·rw [if_pos ⟨by omega, hk⟩, if_neg hk]; exact .inr ⟨by omega, by show (a : Int) = _; omega⟩
 | .gap t x d, a, h => by unfold walkP putP; exact .inl ⟨rfl, rfl⟩
 | .branch k x l, a, h => by
  unfold okP at h
  unfold walkP putP
  rw [show stepS (.branch k x l) (-1) = -1 from rfl]
  exact starts_put l ⟨a, -1, -1, false⟩ (-1) h.2.1 (.inl ⟨rfl, rfl⟩)
theorem starts_put {b : Nat} : ∀ (l : List PT) (q : Pl) (x : Int), oksP b l q.end_ → RelS b x q.from_ → RelS b (walksP stepS l x) (putsP l q).from_
 | [], q, x, _, h => by unfold walksP putsP; exact h
 | p :: l, q, x, ho, h => by
  unfold oksP at ho
  unfold walksP putsP
  refine starts_put l (joinP q (putP p q.end_)) _ ho.2 ?_
  show RelS b _ (if q.from_ < 0 then (putP p q.end_).from_ else q.from_)
  rcases h with ⟨rfl, hf⟩ | ⟨hx, hf⟩
  ·rw [if_pos (by omega)]; exact start_put p q.end_ ho.1
  ·rw [if_neg (by omega), start_stay p x hx]; exact .inr ⟨hx, hf⟩
end
mutual
theorem walk_notes {b : Nat} : ∀ (p : PT) (a : Nat) (out : List Nt), okP b p a → walkP (stepN b) p out = out ++ rnotesP p a
 | .leaf k t x, a, out, h => by
  unfold okP at h
  unfold walkP stepN rnotesP
  rw [note_leaf]
  subst h
  simp only [Nat.add_assoc]
 | .gap t x d, a, out, h => by
  unfold okP at h
  unfold walkP stepN rnotesP
  rw [note_gap]
  subst h
  rfl
 | .branch k x l, a, out, h => by
  have h0 := h
  unfold okP at h
  unfold walkP rnotesP
  rw [walks_notes l a _ h.2.1]
  have e : stepN b (.branch k x l) out = out ++ (if k = 5 then [((putP (.branch k x l) a).from_, (putP (.branch k x l) a).to_, 3)] else []) := by
   unfold stepN
   rw [note_branch]
   by_cases hk : k = 5
   ·rw [if_pos hk, if_pos hk]
    have h1 := h.2.2 hk
    have h2 := start_put _ _ h0
    have h3 := ok_to _ _ h0
    have h4 := put_end (.branch k x l) a
    have h5 : (b : Int) + startOf (.branch k x l) = (putP (.branch k x l) a).from_ := by
     unfold startOf startI
     rcases h2 with ⟨_, hf⟩ | ⟨hx, hf⟩
     ·omega
     ·rw [if_neg (by omega)]; omega
    have h6 : ((b + PT.to_ (.branch k x l) : Nat) : Int) = (putP (.branch k x l) a).to_ := by rw [h1.2, h4]; omega
    rw [h5, h6]
   ·rw [if_neg hk, if_neg hk]
  rw [e, List.append_assoc]
theorem walks_notes {b : Nat} : ∀ (l : List PT) (a : Nat) (out : List Nt), oksP b l a → walksP (stepN b) l out = out ++ rnotessP l a
 | [], a, out, _ => by unfold walksP rnotessP; rw [List.append_nil]
 | p :: l, a, out, h => by
  unfold oksP at h
  unfold walksP rnotessP
  rw [walk_notes p a out h.1, walks_notes l _ _ h.2, List.append_assoc]
end
theorem rnotess_app : ∀ (l m : List PT) (a : Nat), rnotessP (l ++ m) a = rnotessP l a ++ rnotessP m (a + widesP l)
 | [], m, a => by simp only [List.nil_append, rnotessP, widesP, Nat.add_zero]
 | p :: l, m, a => by
  simp only [List.cons_append, rnotessP, widesP]
  rw [rnotess_app l m, List.append_assoc, put_end, Nat.add_assoc]
end Go.Proofs.YtalklmeejdmifaaGreatDoor.Tr
namespace Go.Proofs.YtalklmeejdmifaaGreatDoor
open Go.RowKit
structure VisC {σ : Type} (Fn : Nat) (caps : Array Value) (w0 : World) (F : Nat → Prop) (Q : Tr.PT → Prop) (G : σ → Prop) (st : Tr.PT → σ → σ) (I : σ → World → Prop) : Prop where
 run : ∀ (args : Array Value) (w : World), (callFunc Fn args).run Tryz.prog w = .ok (.enter Fn args) w
 keep : ∀ x w, I x w → w0.heap.size ≤ w.heap.size ∧ ∀ b, F b → b < w0.heap.size → w.heap[b]? = w0.heap[b]?
 call : ∀ (p : Tr.PT) (v : Value) (x : σ) (w : World), Q p → PtF w0 F p v → I x w → G (st p x) → Calls Tryz.prog Fn (#[v] ++ caps) w fun e w' => e = .returned (.tuple #[]) ∧ I (st p x) w'
 sub : ∀ k a l, Q (.branch k a l) → l.length ≤ 1000000000 ∧ ∀ p ∈ l, Q p
 back : ∀ p x, G (st p x) → G x
section
variable {σ : Type} {Fn : Nat} {caps : Array Value} {w0 : World} {F : Nat → Prop} {Q : Tr.PT → Prop} {G : σ → Prop} {st : Tr.PT → σ → σ} {I : σ → World → Prop}
mutual
theorem Tr.walk_back {G : σ → Prop} {st : Tr.PT → σ → σ} (hb : ∀ p x, G (st p x) → G x) : ∀ (p : Tr.PT) (x : σ), G (Tr.walkP st p x) → G (st p x)
 | .leaf k t a, x, h => by unfold Tr.walkP at h; exact h
 | .gap t a d, x, h => by unfold Tr.walkP at h; exact h
 | .branch k a l, x, h => by unfold Tr.walkP at h; exact Tr.walks_back hb l _ h
theorem Tr.walks_back {G : σ → Prop} {st : Tr.PT → σ → σ} (hb : ∀ p x, G (st p x) → G x) : ∀ (l : List Tr.PT) (x : σ), G (Tr.walksP st l x) → G x
 | [], x, h => by unfold Tr.walksP at h; exact h
 | p :: l, x, h => by
  unfold Tr.walksP at h
  exact hb p x (Tr.walk_back hb p x (Tr.walks_back hb l _ h))
end
def WalkC (Fn : Nat) (caps : Array Value) (w0 : World) (F : Nat → Prop) (Q : Tr.PT → Prop) (G : σ → Prop) (st : Tr.PT → σ → σ) (I : σ → World → Prop) (p : Tr.PT) : Prop :=
 ∀ (v : Value) (x : σ) (w : World), Q p → PtF w0 F p v → I x w → G (Tr.walkP st p x) → Calls Tryz.prog 47 #[v, .func (.func Fn) #[] caps] w fun e w' => e = .returned (.tuple #[]) ∧ I (Tr.walkP st p x) w'
theorem Tr.walks_take {st : Tr.PT → σ → σ} (l : List Tr.PT) (i : Nat) (h : i < l.length) (x : σ) : Tr.walksP st (l.take (i + 1)) x = Tr.walkP st l[i] (Tr.walksP st (l.take i) x) := by
 rw [List.take_succ_eq_append_getElem h, Tr.walks_app]
 simp only [Tr.walksP]
theorem VisC.blk (V : VisC Fn caps w0 F Q G st I) {x : σ} {w : World} {g : Nat} {t : TypeId} {cs : Array Value} (h : Blk w0 g t cs) (hF : F g) (hI : I x w) : Blk w g t cs := ((V.keep x w hI).2 g hF h.lt).trans h
set_option maxHeartbeats 4000000 in
set_option maxRecDepth 100000 in
theorem walk_leaf (V : VisC Fn caps w0 F Q G st I) {p : Tr.PT} {t : TypeId} {q : Nat} (ht : t = 104 ∨ t = 107) (hp : PtF w0 F p (.iface t (.pointer (some ⟨q, 0, none⟩)))) (hQ : Q p) {x : σ} {w : World} (hI : I x w) (hG : G (st p x)) :
  Calls Tryz.prog 47 #[.iface t (.pointer (some ⟨q, 0, none⟩)), .func (.func Fn) #[] caps] w fun e w' => e = .returned (.tuple #[]) ∧ I (st p x) w' := by
 have hrun := V.run
 have hcl := V.call p _ x w hQ hp hI hG
 clear hp hI V hG
 generalize st p x = y at *
 rcases ht with rfl | rfl
 ·have has := fun w => as_leaf_branch ⟨q, 0, none⟩ w
  go_enter Tryz.func47, Tryz.ntmps47
  go_wp2_with fail
  refine hcl.mono ?_
  clear hcl
  rintro e w1 ⟨rfl, h1⟩
  go_wp2_with fail
  go_end0
  exact ⟨rfl, h1⟩
 ·have has := fun w => as_gap_branch ⟨q, 0, none⟩ w
  go_enter Tryz.func47, Tryz.ntmps47
  go_wp2_with fail
  refine hcl.mono ?_
  clear hcl
  rintro e w1 ⟨rfl, h1⟩
  go_wp2_with fail
  go_end0
  exact ⟨rfl, h1⟩
set_option maxHeartbeats 8000000 in
set_option maxRecDepth 100000 in
theorem walk_branch (V : VisC Fn caps w0 F Q G st I) {q k a c : Nat} {l : List Tr.PT} {A : Option Addr} {vs : List Value} (hp : PtF w0 F (.branch k a l) (.iface 90 (.pointer (some ⟨q, 0, none⟩)))) (hF : F q) (hB : Blk w0 q 109 #[.int .i64 (k : Int), .slice A l.length c, .int .i64 (a : Int)]) (hrow : RowF w0 F A vs) (hps : PtsF w0 F l vs) (hQ : Q (.branch k a l)) (IH : ∀ p ∈ l, WalkC Fn caps w0 F Q G st I p) {x : σ} {w : World} (hI : I x w) (hG : G (Tr.walksP st l (st (.branch k a l) x))) :
  Calls Tryz.prog 47 #[.iface 90 (.pointer (some ⟨q, 0, none⟩)), .func (.func Fn) #[] caps] w fun e w' => e = .returned (.tuple #[]) ∧ I (Tr.walksP st l (st (.branch k a l) x)) w' := by
 have hrun := V.run
 have hcl := V.call _ _ x w hQ hp hI (Tr.walks_back V.back l _ hG)
 obtain ⟨hl, hQl⟩ := V.sub _ _ _ hQ
 have hbk := V.back
 clear hp hI
 generalize st (.branch k a l) x = y at *
 have has := fun w => as_branch_branch ⟨q, 0, none⟩ w
 go_enter Tryz.func47, Tryz.ntmps47
 go_wp2_with fail
 refine hcl.mono ?_
 clear hcl
 rintro e w1 ⟨rfl, h1⟩
 have b1 := (V.blk hB hF h1).cell 1
 simp at b1
 have Hl := Lib.hid hl
 clear hl
 go_wp2_with fail
 go_loopg [22] l.length (fun m v wr => ∃ i : Nat, v = .int .i64 (i : Int) ∧ i ≤ l.length ∧ l.length - i ≤ m ∧ I (Tr.walksP st (l.take i) y) wr)
 case atStart => exact ⟨0, rfl, Nat.zero_le _, Nat.le_refl _, by simpa [Tr.walksP] using h1⟩
 case round =>
  clear h1 b1
  obtain ⟨i, rfl, hi, hm, h1⟩ := hrel
  by_cases hlt : i < l.length
  ·have ii0 : (0 : Int) ≤ (i : Int) := by omega
   have ii1 : (i : Int) < (l.length : Int) := by omega
   obtain ⟨v, hv, hpv⟩ := hps.at_ hlt
   obtain ⟨br, o, rfl, hFb, hbl, hc⟩ := hrow (by have := hps.len; omega)
   have hcell := hc _ _ hv
   have q0 := (World.cell?_of_block (a := ⟨br, o + i, none⟩) ((V.keep _ _ h1).2 br hFb hbl)).trans hcell
   have hg1 : G (Tr.walkP st l[i] (Tr.walksP st (l.take i) y)) := by
    rw [← Tr.walks_take l i hlt]
    refine Tr.walks_back hbk (l.drop (i + 1)) _ ?_
    rw [← Tr.walks_app, List.take_append_drop]
    exact hG
   have hcl := IH l[i] (List.getElem_mem hlt) v _ wr (hQl _ (List.getElem_mem hlt)) hpv h1 hg1
   rw [← Tr.walks_take l i hlt] at hcl
   clear hg1
   obtain ⟨tp, qp, rfl⟩ := hpv.form
   have Hlt := Lib.hid hlt
   have Hm := Lib.hid hm
   clear hv hpv hc hcell hbl hlt hm hi h1
   go_wp2_with fail
   refine hcl.mono ?_
   clear hcl q0
   rintro e w2 ⟨rfl, h2⟩
   have c1 : IntKind.i64.wrap ((i : Int) + 1) = (i : Int) + 1 := IntWalk.i64_in _ (by have := Hlt.out; have := Hl.out; omega)
   go_wp2_with fail
   go_roundg (l.length - (i + 1))
   case rel => exact ⟨i + 1, by go_num, by have := Hlt.out; omega, Nat.le_refl _, h2⟩
   case measure => have := Hlt.out; have := Hm.out; omega
  ·obtain rfl : i = l.length := by omega
   have i1 : ¬ (l.length : Int) < (l.length : Int) := by omega
   have i2 : decide (l.length < l.length) = false := by simp
   rw [List.take_length] at h1
   clear hlt hi hm
   go_wp2_with fail
   go_end0
   exact ⟨rfl, h1⟩
mutual
theorem walk_all (V : VisC Fn caps w0 F Q G st I) : ∀ p : Tr.PT, WalkC Fn caps w0 F Q G st I p
 | .leaf k t a => fun v x w hQ hp hI hG => by
  have hp0 := hp
  obtain ⟨g, rfl, _⟩ := hp0
  unfold Tr.walkP at hG ⊢
  exact walk_leaf V (.inl rfl) hp hQ hI hG
 | .gap t a d => fun v x w hQ hp hI hG => by
  have hp0 := hp
  obtain ⟨g, rfl, _⟩ := hp0
  unfold Tr.walkP at hG ⊢
  exact walk_leaf V (.inr rfl) hp hQ hI hG
 | .branch k a l => fun v x w hQ hp hI hG => by
  have hp0 := hp
  obtain ⟨g, rfl, hF, A, c, vs, hB, hc, hr, hps⟩ := hp0
  unfold Tr.walkP at hG ⊢
  exact walk_branch V hp hF hB hr hps hQ (walks_all V l) hI hG
theorem walks_all (V : VisC Fn caps w0 F Q G st I) : ∀ l : List Tr.PT, ∀ p ∈ l, WalkC Fn caps w0 F Q G st I p
 | [], p, hp => absurd hp (by simp)
 | q :: l, p, hp => by
  rcases List.mem_cons.1 hp with he | hp
  ·rw [he]; exact walk_all V q
  ·exact walks_all V l p hp
end
end
def StI (w0 : World) (b : Nat) (x : Int) (w : World) : Prop := Blk w b 3 #[.int .i64 x] ∧ w0.heap.size ≤ b ∧ Below w0.heap.size w0 w
set_option maxHeartbeats 4000000 in
set_option maxRecDepth 100000 in
theorem start1_walk {w0 w : World} {F : Nat → Prop} {b : Nat} {p : Tr.PT} {v : Value} {x : Int} (hp : PtF w0 F p v) (hI : StI w0 b x w) :
  Calls Tryz.prog 86 #[v, .pointer (some ⟨b, 0, none⟩)] w fun e w' => e = .returned (.tuple #[]) ∧ StI w0 b (Tr.stepS p x) w' := by
 obtain ⟨hb, hsz, hd⟩ := hI
 have c0 := hb.cell 0
 simp at c0
 cases p with
 | leaf k t a =>
  obtain ⟨q, rfl, hF, hB⟩ := hp
  have hB := hB.below hd hB.lt
  have k0 := hB.cell 0
  have k2 := hB.cell 2
  simp at k0 k2
  have HP : Hid (Tr.stepS (.leaf k t a) x = if x < 0 ∧ ¬ (k = 1 ∨ k = 2) then (a : Int) else x) := rfl
  generalize Tr.stepS (.leaf k t a) x = y at *
  have hbl := blank_walk k w
  have has := fun w => as_leaf_leaf ⟨q, 0, none⟩ w
  clear hB
  by_cases hx : x < 0
  ·have e1 : decide (x < 0) = true := by simp [hx]
   by_cases hk : k = 1 ∨ k = 2
   ·have e2 : (k == 1 || k == 2) = true := by simp [hk]
    have HP : Hid (y = x) := by show _ = _; rw [HP.out, if_neg (by simp [hk])]
    clear hk
    go_enter Tryz.func86, Tryz.ntmps86
    go_wp2_with fail
    refine hbl.mono ?_
    clear hbl
    rintro e w1 ⟨rfl, rfl⟩
    rw [e2]
    go_wp2_with fail
    go_end0
    exact ⟨rfl, by rw [HP.out]; exact ⟨hb, hsz, hd⟩⟩
   ·have e2 : (k == 1 || k == 2) = false := by simp; omega
    have HP : Hid (y = a) := by show _ = _; rw [HP.out, if_pos ⟨hx, hk⟩]
    have f0 := hb.frozen 0
    clear hk
    go_enter Tryz.func86, Tryz.ntmps86
    go_wp2_with fail
    refine hbl.mono ?_
    clear hbl
    rintro e w1 ⟨rfl, rfl⟩
    rw [e2]
    go_wp2_with fail
    go_end0
    refine ⟨rfl, ?_, hsz, hd.setCell (p := ⟨b, 0, none⟩) hsz _⟩
    rw [HP.out]
    exact hb.set_ 0 (.int .i64 (a : Int))
  ·have e1 : decide (x < 0) = false := by simp; omega
   have HP : Hid (y = x) := by show _ = _; rw [HP.out, if_neg (by omega)]
   clear hbl
   go_enter Tryz.func86, Tryz.ntmps86
   go_wp2_with fail
   go_end0
   exact ⟨rfl, by rw [HP.out]; exact ⟨hb, hsz, hd⟩⟩
 | gap t a d =>
  obtain ⟨q, rfl, hF, hB⟩ := hp
  have has := fun w => as_gap_leaf ⟨q, 0, none⟩ w
  clear hB c0
  go_enter Tryz.func86, Tryz.ntmps86
  go_wp2_with fail
  go_end0
  exact ⟨rfl, hb, hsz, hd⟩
 | branch k a l =>
  obtain ⟨q, rfl, hF, hB⟩ := hp
  have has := fun w => as_branch_leaf ⟨q, 0, none⟩ w
  clear hB c0
  go_enter Tryz.func86, Tryz.ntmps86
  go_wp2_with fail
  go_end0
  exact ⟨rfl, hb, hsz, hd⟩
theorem start1_vis (w0 : World) (F : Nat → Prop) (b : Nat) : VisC (σ := Int) 86 #[.pointer (some ⟨b, 0, none⟩)] w0 F Tr.wfP (fun _ => True) Tr.stepS (StI w0 b) where
 run := fun _ _ => by kernel_rfl
 keep := fun x w h => ⟨h.2.2.size, fun y _ hl => h.2.2.block y hl⟩
 call := fun p v x w _ hp hI _ => start1_walk hp hI
 back := fun _ _ _ => trivial
 sub := fun k a l h => by
  unfold Tr.wfP at h
  exact ⟨h.2.1, wfs_mem l h.2.2⟩
set_option maxHeartbeats 4000000 in
set_option maxRecDepth 100000 in
theorem start_walkT {w0 w : World} {F : Nat → Prop} {p : Tr.PT} {v : Value} (hw : Tr.wfP p) (hp : PtF w0 F p v) (hto : p.to_ ≤ 1000000000000) (hd : Below w0.heap.size w0 w) :
  Calls Tryz.prog 46 #[v] w fun e w' => e = .returned (.int .i64 (Tr.startOf p)) ∧ Below w.heap.size w w' := by
 obtain ⟨t, q, f, rfl, hni, hme, hcf, hcl⟩ := to_all p hw w0 F v hp hto
 have hd1 : Below w.heap.size w (w.alloc (.cells #[.int .i64 (-1)] 3)) := (Below.refl _ _).alloc (Nat.le_refl _) _
 have hb := Blk.new w 3 #[.int .i64 (-1)]
 have hpw := PtF.keep (F' := F) hd.size (fun b hF hl => ⟨hd.block b hl, hF⟩) _ _ hp
 have hcw := walk_all (start1_vis w F w.heap.size) p (.iface t (.pointer (some ⟨q, 0, none⟩))) (-1) (w.alloc (.cells #[.int .i64 (-1)] 3)) hw hpw ⟨hb, Nat.le_refl _, hd1⟩ trivial
 have HS : Hid (Tr.walkP Tr.stepS p (-1) = Tr.startI p) := rfl
 rw [HS.out] at hcw
 have HO : Hid (Tr.startOf p = if Tr.startI p < 0 then (Tr.PT.to_ p : Int) else Tr.startI p) := rfl
 clear HS hb hd1 hp hpw
 generalize Tr.startI p = x at *
 generalize Tr.startOf p = y at *
 go_enter Tryz.func46, Tryz.ntmps46
 go_wp2_with fail
 refine hcw.mono ?_
 clear hcw
 rintro e w2 ⟨rfl, hI⟩
 obtain ⟨hb2, _, hd2⟩ := hI
 have c0 := hb2.cell 0
 simp at c0
 have hcl := hcl w2 (hd.trans (hd2.mono hd.size))
 clear hb2
 by_cases hx : x < 0
 ·have e1 : decide (x < 0) = true := by simp [hx]
  have HO : Hid (y = (Tr.PT.to_ p : Int)) := by show _ = _; rw [HO.out, if_pos hx]
  clear hx
  go_wp2_with fail
  refine hcl.mono ?_
  clear hcl
  rintro e w3 ⟨rfl, n, rfl⟩
  go_wp2_with fail
  go_ret
  exact ⟨by rw [HO.out]; rfl, below_drewN hd2 _⟩
 ·have e1 : decide (x < 0) = false := by simp; omega
  have HO : Hid (y = x) := by show _ = _; rw [HO.out, if_neg hx]
  clear hx hcl
  go_wp2_with fail
  go_ret
  exact ⟨by rw [HO.out]; rfl, hd2⟩
end Go.Proofs.YtalklmeejdmifaaGreatDoor
