/-
  THE WALK of the law LexAgain.
-/
import Derived.Test.YtgpjcjnimheglaaGreatDoorMA
import Derived.Test.YtgpjcjnimheglaaGreatDoorToldQ
namespace Go.Proofs.YtgpjcjnimheglaaGreatDoor
open Go.RowKit

theorem sp_cases {f1 t1 f2 t2 : Int} {s1 s2 : Bs} {wr : World} {gp : Nat} {k : Nat} (hB : Blk wr gp 23 #[.int .i64 f1, .int .i64 t1, .string ⟨s1.toArray⟩, .int .i64 f2, .int .i64 t2, .string ⟨s2.toArray⟩]) (hk : k < 2) (h1 : s1.length ≤ 1048576) (h2 : s2.length ≤ 1048576) :
    ∃ (f t : Int) (s : Bs), wr.cell? ⟨gp, k * 3, none⟩ = some (.int .i64 f) ∧ wr.cell? ⟨gp, k * 3 + 1, none⟩ = some (.int .i64 t) ∧ wr.cell? ⟨gp, k * 3 + 2, none⟩ = some (.string ⟨s.toArray⟩) ∧ s.length ≤ 1048576 := by
  match k, hk with
  | 0, _ => exact ⟨f1, t1, s1, by rw [hB.cell]; rfl, by rw [hB.cell]; rfl, by rw [hB.cell]; rfl, h1⟩
  | 1, _ => exact ⟨f2, t2, s2, by rw [hB.cell]; rfl, by rw [hB.cell]; rfl, by rw [hB.cell]; rfl, h2⟩

set_option maxHeartbeats 4000000 in
set_option maxRecDepth 100000 in
theorem lexAgain_walk (s0 : Bs) (f1 t1 f2 t2 : Int) (s1 s2 : Bs) (m : Int) (w : World) (hM : MaxL w m) (hT : T8 w) (hW : WordsIs w) (hE : ErrT w) (h0 : s0.length ≤ 1048576) (h1 : s1.length ≤ 1048576) (h2 : s2.length ≤ 1048576) :
    Calls Tryz.prog 3 #[.string ⟨s0.toArray⟩, .agg #[.int .i64 f1, .int .i64 t1, .string ⟨s1.toArray⟩], .agg #[.int .i64 f2, .int .i64 t2, .string ⟨s2.toArray⟩]] w fun e w' => e = .returned (.bool true) ∧ Below w.heap.size w w' := by
  have hbA : Below w.heap.size w ((w.alloc (.cells #[.int .i64 f1, .int .i64 t1, .string ⟨s1.toArray⟩] 23)).alloc (.cells #[.int .i64 f2, .int .i64 t2, .string ⟨s2.toArray⟩] 23)) := ((Below.refl _ _).alloc (Nat.le_refl _) _).alloc (by simp) _
  have hBa : Blk ((w.alloc (.cells #[.int .i64 f1, .int .i64 t1, .string ⟨s1.toArray⟩] 23)).alloc (.cells #[.int .i64 f2, .int .i64 t2, .string ⟨s2.toArray⟩] 23)) w.heap.size 23 #[.int .i64 f1, .int .i64 t1, .string ⟨s1.toArray⟩] := (Blk.new w _ _).alloc _
  have hBb : Blk ((w.alloc (.cells #[.int .i64 f1, .int .i64 t1, .string ⟨s1.toArray⟩] 23)).alloc (.cells #[.int .i64 f2, .int .i64 t2, .string ⟨s2.toArray⟩] 23)) (w.heap.size + 1) 23 #[.int .i64 f2, .int .i64 t2, .string ⟨s2.toArray⟩] := by
    have := Blk.new (w.alloc (.cells #[.int .i64 f1, .int .i64 t1, .string ⟨s1.toArray⟩] 23)) 23 #[.int .i64 f2, .int .i64 t2, .string ⟨s2.toArray⟩]
    simpa using this
  have hnew := lnew_walk s0 m _ (hM.below hbA hM.lt) (hT.below hbA) (hW.below hbA) (by omega)
  go_enter Tryz.func3, Tryz.ntmps3
  go_wp2_with fail
  refine hnew.mono ?_
  clear hnew
  rintro e w1 ⟨g, rfl, hg, hd, hb1⟩
  have hbw1 := hbA.trans (hb1.mono hbA.size)
  have hBa1 := hBa.below hb1 hBa.lt
  have hBb1 := hBb.below hb1 hBb.lt
  have a0 := hBa1.cell 0
  have a1 := hBa1.cell 1
  have a2 := hBa1.cell 2
  have b0 := hBb1.cell 0
  have b1 := hBb1.cell 1
  have b2 := hBb1.cell 2
  simp at a0 a1 a2 b0 b1 b2
  clear hBa hBb hbA hg hb1 hBa1 hBb1
  go_upto_region 5 with fail
  have hbw2 : Below w.heap.size w (w1.alloc (.cells #[.int .i64 f1, .int .i64 t1, .string ⟨s1.toArray⟩, .int .i64 f2, .int .i64 t2, .string ⟨s2.toArray⟩] 23)) := hbw1.alloc hbw1.size _
  have hBs : Blk (w1.alloc (.cells #[.int .i64 f1, .int .i64 t1, .string ⟨s1.toArray⟩, .int .i64 f2, .int .i64 t2, .string ⟨s2.toArray⟩] 23)) w1.heap.size 23 #[.int .i64 f1, .int .i64 t1, .string ⟨s1.toArray⟩, .int .i64 f2, .int .i64 t2, .string ⟨s2.toArray⟩] := Blk.new _ _ _
  have hd2 := hd.below ((Below.refl _ _).alloc (Nat.le_refl _) (.cells #[.int .i64 f1, .int .i64 t1, .string ⟨s1.toArray⟩, .int .i64 f2, .int .i64 t2, .string ⟨s2.toArray⟩] 23))
  clear hd hbw1 a0 a1 a2 b0 b1 b2
  obtain ⟨gp, hgp⟩ : ∃ gp, gp = w1.heap.size := ⟨_, rfl⟩
  rw [← hgp] at hBs ⊢
  clear hgp
  generalize w1.alloc (.cells #[.int .i64 f1, .int .i64 t1, .string ⟨s1.toArray⟩, .int .i64 f2, .int .i64 t2, .string ⟨s2.toArray⟩] 23) = w2 at *
  go_wp2_with fail
  go_loopw [0, 7, 9] (fun tx dv iv wr => ∃ (s : Bs) (g k : Nat), tx = .string ⟨s.toArray⟩ ∧ dv = .pointer (some ⟨g, 0, none⟩) ∧ iv = .int .i64 k ∧ k ≤ 2 ∧ s.length ≤ 1048576 * (k + 1) ∧ DocAt wr g s (Lx.tokR 0 s) ∧ Blk wr gp 23 #[.int .i64 f1, .int .i64 t1, .string ⟨s1.toArray⟩, .int .i64 f2, .int .i64 t2, .string ⟨s2.toArray⟩] ∧ Below w.heap.size w wr) (fun _ _ iv _ => 2 - (intOf iv).toNat)
  case atStart => exact ⟨s0, g, 0, rfl, rfl, rfl, by omega, by omega, hd2, hBs, hbw2⟩
  case round =>
    clear hd2 hBs hbw2
    obtain ⟨s, g, k, rfl, rfl, rfl, hk, hsl, hd, hB, hb⟩ := hrel
    have j1 : (0 : Int) ≤ (k : Int) := by omega
    by_cases hlt : k < 2
    · have j2 : (k : Int) < 2 := by omega
      obtain ⟨f, t, x, c0, c1, c2, hxl⟩ := sp_cases hB hlt h1 h2
      have hbA : Below wr.heap.size wr (wr.alloc (.cells #[.int .i64 f, .int .i64 t, .string ⟨x.toArray⟩] 23)) := (Below.refl _ _).alloc (Nat.le_refl _) _
      have hX : Blk (wr.alloc (.cells #[.int .i64 f, .int .i64 t, .string ⟨x.toArray⟩] 23)) wr.heap.size 23 #[.int .i64 f, .int .i64 t, .string ⟨x.toArray⟩] := Blk.new _ _ _
      have hdA := hd.below hbA
      have hBA := hB.below hbA hB.lt
      have hbwA := hb.trans (hbA.mono hb.size)
      have hsl2 : s.length ≤ 2097152 := by
        match k, hlt with
        | 0, _ => omega
        | 1, _ => omega
      go_upto_region 9 with fail
      obtain ⟨gx, hgx⟩ : ∃ gx, gx = wr.heap.size := ⟨_, rfl⟩
      rw [← hgx] at hX ⊢
      clear hgx hd hB hb hbA c0 c1 c2
      generalize wr.alloc (.cells #[.int .i64 f, .int .i64 t, .string ⟨x.toArray⟩] 23) = wA at *
      have c0 := hX.cell 0
      have c1 := hX.cell 1
      have c2 := hX.cell 2
      simp at c0 c1 c2
      by_cases hok : 0 ≤ f ∧ f ≤ t ∧ t ≤ s.length
      · obtain ⟨frm, rfl⟩ : ∃ n : Nat, f = n := ⟨f.toNat, by omega⟩
        obtain ⟨til, rfl⟩ : ∃ n : Nat, t = n := ⟨t.toNat, by omega⟩
        have g1 : frm ≤ til := by omega
        have g2 : til ≤ s.length := by omega
        as_aux_lemma =>
          have hrp := replace_walkL g s frm til x m wA (hM.below hbwA hM.lt) (hT.below hbwA) (hW.below hbwA) hdA g1 g2 (by omega)
          have hTl := Lx.tokR_length 0 s
          have hnl := Lx.now_len s frm til x g1 g2
          have hnz : (Lx.nowM s frm til x).length ≤ 1048576 * (k + 1) + 1048576 := by omega
          have hnz2 : (Lx.nowM s frm til x).length ≤ 3145728 := by omega
          have hTl2 := Lx.tokR_length 0 (Lx.nowM s frm til x)
          have hnd := now_data s x frm til g2
          have hst := fun w => stay_walk s frm til x w g1 g2 (by omega)
          have hrt := fun w => rtokens_walk s w (by omega)
          have hlt2 := fun w hM hT hW => tokens_walkO (Lx.nowM s frm til x) m w hM hT hW (by omega)
          have Hst := Lib.hid hst
          have Hrt := Lib.hid hrt
          have Hlt2 := Lib.hid hlt2
          clear hst hrt hlt2 hnl
          have i1 : (0 : Int) ≤ (frm : Int) := by omega
          have i2 : (frm : Int) ≤ (s.length : Int) := by omega
          have i3 : (0 : Int) ≤ (til : Int) := by omega
          have i4 : (til : Int) ≤ (s.length : Int) := by omega
          have i5 : (frm : Int) ≤ (til : Int) := by omega
          generalize (Lx.anewM s frm til x).length = N at *
          generalize Lx.headM (Lx.tokR 0 s) frm = hd0 at *
          generalize ((Lx.tokR 0 s).length : Int) - (Lx.behindM s frm til x : Nat) = bh0 at *
          generalize Lx.nowM s frm til x = now at *
          generalize hTT : Lx.tokR 0 s = T at *
          have HTT := Lib.hid hTT
          clear hTT
          generalize hT2 : Lx.tokR 0 now = T2 at *
          have HT2 := Lib.hid hT2
          clear hT2
          go_wp2_with fail
          refine hrp.mono ?_
          clear hrp
          rintro e w3 ⟨ge, rfl, hge, hde, hb3⟩
          have hX3 := hX.below hb3 hX.lt
          have hB3 := hBA.below hb3 hBA.lt
          have hd3 := hdA.below hb3
          have hbw3 := hbwA.trans (hb3.mono hbwA.size)
          clear hX hBA hdA hb3 c0 c1 c2 hge
          have c0 := hX3.cell 0
          have c1 := hX3.cell 1
          have c2 := hX3.cell 2
          simp at c0 c1 c2
          go_wp2_with fail
          refine (Hst.out _).mono ?_
          rintro e w4 ⟨rfl, hb4⟩
          go_wp2_with fail
          refine (ltokens_walk g s T w4 (hd3.below hb4) (by omega)).mono ?_
          rintro e w5 ⟨Ao, rfl, ⟨co, ho⟩, hb5⟩
          go_wp2_with fail
          refine (Hrt.out _).mono ?_
          rintro e w6 ⟨Ar, cr, rfl, hrr, hb6⟩
          have hro := Rd.of_own ho
          go_wp2_with fail
          refine (sameTks_walk Ao Ar T.length cr T w6 ((hro.below hb6).more hb6.size) hrr (by omega)).mono ?_
          rintro e w7 ⟨rfl, hb7⟩
          have hb37 := ((hb4.trans (hb5.mono hb4.size)).trans (hb6.mono (Nat.le_trans hb4.size hb5.size))).trans (hb7.mono (Nat.le_trans (Nat.le_trans hb4.size hb5.size) hb6.size))
          have hX7 := hX3.below hb37 hX3.lt
          have hB7 := hB3.below hb37 hB3.lt
          have hde7 := hde.below hb37
          have hbw7 := hbw3.trans (hb37.mono hbw3.size)
          clear hb4 hb5 hb6 hb7 hb37 hro hrr ho hX3 hB3 hde hd3 hbw3 c0 c1 c2 Hst Hrt
          have c0 := hX7.cell 0
          have c1 := hX7.cell 1
          have c2 := hX7.cell 2
          simp at c0 c1 c2
          have e1 : ¬ 9223372036854775807 < frm + x.length := by omega
          have e2 : ¬ 9223372036854775807 < frm + x.length + (s.length - til) := by omega
          have hfs : frm ≤ s.length := by omega
          go_wp2_with fail
          go_quiet (fail)
          have hX8 : Blk (w7.drewN nq) gx 23 #[.int .i64 frm, .int .i64 til, .string ⟨x.toArray⟩] := hX7
          have hB8 : Blk (w7.drewN nq) gp 23 #[.int .i64 f1, .int .i64 t1, .string ⟨s1.toArray⟩, .int .i64 f2, .int .i64 t2, .string ⟨s2.toArray⟩] := hB7
          have hde8 : DocAt (w7.drewN nq) ge now T2 := hde7.below (below_drewN (Below.refl _ _) _)
          have hbw8 : Below w.heap.size w (w7.drewN nq) := below_drewN hbw7 _
          clear hX7 hB7 hde7 hbw7 c0 c1 c2 e1 e2 hfs hnd
          generalize w7.drewN nq = w8 at *
          go_wp2_with fail
          refine (ltext_walk ge now T2 w8 hde8).mono ?_
          rintro e w9 ⟨rfl, h9⟩
          subst h9
          go_wp2_with fail
          refine (ltokens_walk ge now T2 _ hde8 (by omega)).mono ?_
          rintro e w10 ⟨Al, rfl, ⟨cl, hol⟩, hb10⟩
          have hbw10 := hbw8.trans (hb10.mono hbw8.size)
          go_wp2_with fail
          refine (Hlt2.out w10 (hM.below hbw10 hM.lt) (hT.below hbw10) (hW.below hbw10)).mono ?_
          rintro e w11 ⟨Aw, rfl, ⟨cw, how⟩, hb11⟩
          have hol11 := own_of_block hol fun b hbk => hb11.block b (hol.lt b hbk).2
          have hlw : ∀ b, (Value.slice Al T2.length cl).ownBlock = some b → b < w10.heap.size := fun b hbk => (hol.lt b hbk).2
          have hb911 := hb10.trans (hb11.mono hb10.size)
          go_wp2_with fail
          go_loopw [25] (fun kv wr' => ∃ (j : Nat) (xs : List Value), kv = .int .i64 j ∧ j ≤ T2.length ∧ wr'.ownsRow w9.heap.size 42 3 (.slice Al T2.length cl) T2.length xs ∧ Hid (∀ i, j * 3 ≤ i → xs[i]? = (tksC T2)[i]?) ∧ wr'.ownsRow w10.heap.size 42 3 (.slice Aw T2.length cw) T2.length (tksC T2) ∧ Below w9.heap.size w9 wr') (fun kv _ => T2.length - (intOf kv).toNat)
          case atStart => exact ⟨0, tksC T2, rfl, Nat.zero_le _, hol11, fun _ _ => rfl, how, hb911⟩
          case round =>
            clear hol11 how hol hb911 hb10 hb11
            obtain ⟨j, xs, rfl, hj, hol, HX, how, hb⟩ := hrel
            have k1 : (0 : Int) ≤ (j : Int) := by omega
            by_cases hjt : j < T2.length
            · have k2 : (j : Int) < (T2.length : Int) := by omega
              obtain ⟨gl, cap, hv, _, hgl⟩ := hol.form (by omega)
              injection hv with hv1 hv2 hv3
              subst hv1
              have hglw : gl < w10.heap.size := hlw gl rfl
              obtain ⟨b, o, rfl, hbB, d0, d1, d2⟩ := Rd.tk (Rd.of_own how) hjt
              have x0 := own_cell hol (j * 3 + 0) _ ((HX.out _ (by omega)).trans (tksC_get T2 j 0 (by omega) hjt))
              have x1 := own_cell hol (j * 3 + 1) _ ((HX.out _ (by omega)).trans (tksC_get T2 j 1 (by omega) hjt))
              have x2 := own_cell hol (j * 3 + 2) _ ((HX.out _ (by omega)).trans (tksC_get T2 j 2 (by omega) hjt))
              have y0 := hol.frozenAt (j * 3)
              have y1 := hol.frozenAt (j * 3 + 1)
              have y2 := hol.frozenAt (j * 3 + 2)
              simp at x0 x1 x2
              have hgw : w9.heap.size ≤ gl := (hol.lt gl rfl).1
              have hol2 := fun q : Nat => (World.ownsRow.stored (World.ownsRow.stored (World.ownsRow.stored (show (World.drewN _ q).ownsRow _ _ _ _ _ _ from own_of_block hol (fun _ _ => rfl)) (j * 3) (.int .i64 0)).1 (j * 3 + 1) (.int .i64 0)).1 (j * 3 + 2) (.int .i64 0)).1
              have how2 := fun q : Nat => ownsRow_setCell_below (ownsRow_setCell_below (ownsRow_setCell_below (show (World.drewN _ q).ownsRow _ _ _ _ _ _ from own_of_block how (fun _ _ => rfl)) (a := ⟨gl, j * 3, none⟩) hglw (.int .i64 0)) (a := ⟨gl, j * 3 + 1, none⟩) hglw (.int .i64 0)) (a := ⟨gl, j * 3 + 2, none⟩) hglw (.int .i64 0)
              have hbq := fun q : Nat => (((below_drewN hb q).setCell (p := ⟨gl, j * 3, none⟩) hgw (.int .i64 0)).setCell (p := ⟨gl, j * 3 + 1, none⟩) hgw (.int .i64 0)).setCell (p := ⟨gl, j * 3 + 2, none⟩) hgw (.int .i64 0)
              have HX2 : Hid (∀ i, (j + 1) * 3 ≤ i → (((xs.set (j * 3) (.int .i64 0)).set (j * 3 + 1) (.int .i64 0)).set (j * 3 + 2) (.int .i64 0))[i]? = (tksC T2)[i]?) := fun i hi => by
                rw [List.getElem?_set_ne (by omega), List.getElem?_set_ne (by omega), List.getElem?_set_ne (by omega)]
                exact HX.out i (by omega)
              have Hol2 := Lib.hid hol2
              have How2 := Lib.hid how2
              have Hbq := Lib.hid hbq
              generalize T2[j] = tk at *
              obtain ⟨tk1, tk2, tk3⟩ := tk
              simp only at x0 x1 x2 d0 d1 d2
              clear hol how hb HX hol2 how2 hbq
              go_wp2_with fail
              go_quiet (fail)
              go_wp2_with fail
              go_roundw
              case rel => exact ⟨j + 1, _, by go_num, by omega, Hol2.out _, HX2.out, How2.out _, Hbq.out _⟩
              case measure => simp [intOf]; omega
            · obtain rfl : j = T2.length := by omega
              have hde9 := hde8.below hb
              have hB9 := hB8.below hb hB8.lt
              have hbw9 := hbw8.trans (hb.mono hbw8.size)
              go_wp2_with fail
              go_roundw
              case rel => exact ⟨now, ge, k + 1, rfl, rfl, by go_num, by omega, by omega, by rw [HT2.out]; exact hde9, hB9, hbw9⟩
              case measure => simp [intOf]; omega
      · as_aux_lemma =>
          have hrp := replace_bad g f t s x (Lx.tokR 0 s) wA hdA hok
          have hw : f < 0 ∨ (¬ f < 0 ∧ t < f) ∨ (¬ f < 0 ∧ ¬ t < f ∧ (s.length : Int) < t) := by omega
          clear hok
          go_wp2_with fail
          refine hrp.mono ?_
          clear hrp
          rintro e w3 ⟨rfl, hb3⟩
          have hX3 := hX.below hb3 hX.lt
          have c0 := hX3.cell 0
          have c1 := hX3.cell 1
          simp at c0 c1
          have herr := error_yes 1 1 w3 ((hE.size hbwA).size hb3) rfl
          have hbw3 := hbwA.trans (hb3.mono hbwA.size)
          clear hX hX3 hdA hBA
          rcases hw with e1 | ⟨e1, e2⟩ | ⟨e1, e2, e3⟩
          · have d1 : decide (0 ≤ f) = false := by simp; omega
            go_wp2_with fail
            refine herr.mono ?_
            rintro e w4 ⟨rfl, hb4⟩
            go_wp2_with fail
            go_ret
            exact ⟨rfl, hbw3.trans (hb4.mono hbw3.size)⟩
          · have d1 : decide (0 ≤ f) = true := by simp; omega
            have d2 : decide (f ≤ t) = false := by simp; omega
            go_wp2_with fail
            refine herr.mono ?_
            rintro e w4 ⟨rfl, hb4⟩
            go_wp2_with fail
            go_ret
            exact ⟨rfl, hbw3.trans (hb4.mono hbw3.size)⟩
          · have d1 : decide (0 ≤ f) = true := by simp; omega
            have d2 : decide (f ≤ t) = true := by simp; omega
            have d3 : decide (t ≤ (s.length : Int)) = false := by simp; omega
            go_wp2_with fail
            refine herr.mono ?_
            rintro e w4 ⟨rfl, hb4⟩
            go_wp2_with fail
            go_ret
            exact ⟨rfl, hbw3.trans (hb4.mono hbw3.size)⟩
    · obtain rfl : k = 2 := by omega
      go_wp2_with fail
      go_ret
      exact ⟨rfl, hb⟩
end Go.Proofs.YtgpjcjnimheglaaGreatDoor
