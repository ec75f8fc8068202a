/-
  THE WALK of the law UndoPlays.
-/
import Derived.Test.YtffcfnnbdmihaaaDoorTwo
import Derived.Test.YtffcfnnbdmihaaaDoorUndoNo
import Derived.Test.YtffcfnnbdmihaaaDoorSameInts
import Derived.Test.YtffcfnnbdmihaaaDoorOpenSteps
import Derived.Test.YtffcfnnbdmihaaaDoorRefDo
import Derived.Test.YtffcfnnbdmihaaaDoorDoN
import Derived.Test.YtffcfnnbdmihaaaDoorHist3N
import Derived.Test.YtffcfnnbdmihaaaDoorTold
import Derived.Test.YtffcfnnbdmihaaaDoorSame
import Derived.Deep.DeepCutAuto
namespace Go.Proofs.YtffcfnnbdmihaaaDoor.hn
open Go.RowKit
variable {N : Nat → Prop}

theorem next_walk2 (base h : Nat) (l : List HV) (a : Nat) (w : World) (H : HistAt N w base h l a) (x : HV) (hx : l[a]? = some x) (hnl : x.nx.length ≤ 1048576) :
    Calls Tryd.prog 48 #[.pointer (some ⟨h, 0, none⟩)] w fun e w' => (∃ g cv, e = .returned (.slice (some ⟨g, 0, none⟩) x.nx.length x.nx.length) ∧ w.heap.size ≤ g ∧ w'.ownsRow w.heap.size 3 1 (.slice (some ⟨g, 0, none⟩) x.nx.length cv) x.nx.length (ints x.nx) ∧ Below w.heap.size w w') ∨
      (e = .returned (.slice none 0 0) ∧ x.nx = [] ∧ Below w.heap.size w w') := by
  refine (next_walk base h l a w H x hx hnl).mono ?_
  rintro e w' ⟨Av, cv, rfl, hown, hb⟩
  rcases hown.2 with ⟨hv, hn⟩ | ⟨g, cap, cur, hv, hg, _⟩
  · injection hv with h1 h2 h3
    subst h1
    exact .inr ⟨by rw [hn], List.eq_nil_of_length_eq_zero hn, hb⟩
  · injection hv with h1 h2 h3
    subst h1
    exact .inl ⟨g, cv, rfl, hg, hown, hb⟩

set_option maxHeartbeats 12800000 in
set_option maxRecDepth 100000 in
theorem undoPlays_walk (s : ByteArray) (A : Option Addr) (c : Nat) (L : List St) (w : World) (hr : Rd w w.heap.size 3 A L.length (stCells L)) (hsp : ∀ x ∈ L, Rd w w.heap.size 3 x.A x.sp.length (spCells x.sp)) (hg : ErrT w)
    (hbk : s.size + (L.length + stBulk L) + 1 ≤ 1048576) :
    Calls Tryd.prog 9 #[.string s, .slice A L.length c] w fun e w' => e = .returned (.bool true) ∧ Below w.heap.size w w' := by
  have hl : L.length ≤ 1048576 := by omega
  go_enter Tryd.func9, Tryd.ntmps9
  go_wp2_with fail
  refine (new_walk (N := fun _ => False) s w (fun _ h => h.elim)).mono ?_
  rintro e w1 ⟨h, rfl, H1, hb1⟩
  have hbs1 := hb1.size
  go_wp2_with fail
  go_loopw [7] (fun i wr => ∃ k : Nat, k ≤ L.length ∧ i = .int .i64 k ∧ Tie w.heap.size h (w1.heap.size + 2) (s.size + stBulk (L.take k)) (k + 1) wr ∧ Below w.heap.size w wr) (fun i _ => L.length - (intOf i).toNat)
  case atStart =>
    have T0 := tie_start H1 hbs1
    have hb2 : Below w.heap.size w (startW s w1) := ((hb1.alloc (by omega) _).alloc (by simp; omega) _).alloc (by simp; omega) _
    refine ⟨0, Nat.zero_le _, rfl, ?_, hb2⟩
    have e0 : s.size + stBulk (L.take 0) = s.size := by simp [stBulk]
    rw [e0]
    exact T0
  case round =>
    obtain ⟨k, hk, rfl, T, hb⟩ := hrel
    have hbs := hb.size
    by_cases hlt : k < L.length
    · obtain ⟨b, o, rfl, hbB, c0, c1, c2⟩ := Rd.st (hr.below hb) hlt
      have hrx := (hsp L[k] (List.getElem_mem hlt)).below hb
      have i1 : (0 : Int) ≤ (k : Int) := by omega
      have i2 : (k : Int) < (L.length : Int) := by omega
      have hM : s.size + stBulk (L.take k) + spBytes L[k].sp + L[k].sp.length ≤ s.size + stBulk (L.take (k + 1)) := by
        rw [List.take_succ_eq_append_getElem hlt, stBulk_snoc]; omega
      have hM2 : stBulk (L.take (k + 1)) ≤ stBulk L := stBulk_take L (k + 1)
      generalize L[k] = x at *
      clear H1 hsp
      obtain ⟨v1, v2, l, tx, fr, a, HT, RT, LK, hln⟩ := T
      obtain ⟨ln1, ln2⟩ := LK.len
      have ha : a < l.length := by have := RT.2.2.2.2.2; omega
      obtain ⟨y, hy, hyt, hyf, hyn, hys⟩ := LK.at_ ha
      have hfl : fr.length ≤ 1048576 := by omega
      have Hlen := Lib.hid (And.intro ln1 ln2)
      have Hyn := Lib.hid hyn
      have Hyf := Lib.hid hyf
      have Hyt := Lib.hid hyt
      clear ln1 ln2 hyn hyf hyt
      go_wp2_with fail
      generalize hW2 : wr.alloc (Obj.cells #[Value.int IntKind.i64 x.op, Value.int IntKind.i64 x.n, Value.slice x.A x.sp.length x.c] 80) = W2
      have hb2 : Below wr.heap.size wr W2 := by rw [← hW2]; exact (Below.refl _ _).alloc (Nat.le_refl _) _
      have X2 : Blk W2 wr.heap.size 80 #[Value.int IntKind.i64 x.op, Value.int IntKind.i64 x.n, Value.slice x.A x.sp.length x.c] := by rw [← hW2]; exact Blk.new _ _ _
      have hs2 := X2.lt
      have H2 := HT.below hb2
      have R2 := RT.below hb2
      have hRlt := RT.lt
      clear hW2 RT
      refine (rnext_walk w.heap.size (w1.heap.size + 2) v1 v2 tx fr a W2 R2 hfl).mono ?_
      rintro e W3 ⟨nv, rfl, hnv, hb3⟩
      have hs3 := hb3.size
      have H3 := H2.below hb3
      have R3 := R2.below hb3
      have X3 := X2.below hb3 hs2
      clear H2 R2 X2
      have H3' : HistAt (fun k => NB (w1.heap.size + 2) v1 v2 k ∨ k = wr.heap.size ∨ nv.ownBlock = some k) W3 w.heap.size h l a := by
        refine HT.other (fun k hk _ => (hb3.block k (by omega)).trans (hb2.block k hk)) (fun k hk => ?_)
        rcases hk with h1 | h1 | h1
        · exact .inl h1
        · exact .inr (by omega)
        · exact .inr (by have := (hnv.lt k h1).1; omega)
      clear HT H3
      have hbw : Below w.heap.size w W3 := (hb.trans (hb2.mono hbs)).trans (hb3.mono (by omega))
      have Hy := Lib.hid hy
      clear hy
      have hN3lt : Hid (∀ k, (NB (w1.heap.size + 2) v1 v2 k ∨ k = wr.heap.size ∨ nv.ownBlock = some k) → k < W3.heap.size) := fun k hk => by
        rcases hk with h1 | h1 | h1
        · exact R3.lt k h1
        · have := X3.lt; omega
        · exact (hnv.lt k h1).2
      have hsub : Hid (∀ k, NB (w1.heap.size + 2) v1 v2 k → (NB (w1.heap.size + 2) v1 v2 k ∨ k = wr.heap.size ∨ nv.ownBlock = some k)) := fun k hk => .inl hk
      have hsx : Hid (NB (w1.heap.size + 2) v1 v2 wr.heap.size ∨ wr.heap.size = wr.heap.size ∨ nv.ownBlock = some wr.heap.size) := .inr (.inl rfl)
      have hsn : Hid (∀ k, nv.ownBlock = some k → (NB (w1.heap.size + 2) v1 v2 k ∨ k = wr.heap.size ∨ nv.ownBlock = some k)) := fun k hk => .inr (.inr hk)
      generalize hN3 : (fun k => NB (w1.heap.size + 2) v1 v2 k ∨ k = wr.heap.size ∨ nv.ownBlock = some k) = N3 at H3'
      have HN3 : Hid (∀ k, N3 k → k < W3.heap.size) := by rw [← hN3]; exact hN3lt
      have Hsub : Hid (∀ k, NB (w1.heap.size + 2) v1 v2 k → N3 k) := by rw [← hN3]; exact hsub
      have Hsx : Hid (N3 wr.heap.size) := by rw [← hN3]; exact hsx
      have Hsn : Hid (∀ k, nv.ownBlock = some k → N3 k) := by rw [← hN3]; exact hsn
      clear hN3 hN3lt hsub hsx hsn
      have x0 := X3.cell 0
      have x1 := X3.cell 1
      have x2 := X3.cell 2
      simp at x0 x1 x2
      have hs3b : w.heap.size ≤ W3.heap.size := hbw.size
      have hr3 : Rd W3 w.heap.size 3 x.A x.sp.length (spCells x.sp) := hrx.below ((hb2.mono hbs).trans (hb3.mono (Nat.le_trans hbs hb2.size)))
      have hnl : y.nx.length ≤ 1048576 := by rw [Hyn.out]; exact Nat.le_trans (nextOf_len _ _ _) hfl
      have Hval := Lib.hid (LK.val y.fr (List.mem_of_getElem? Hyf.out))
      obtain ⟨An, cn, rfl⟩ := own_form hnv
      go_upto_if 49 with fail
      go_cut [9] (fun _s9 wc => Tie w.heap.size h (w1.heap.size + 2) (s.size + stBulk (L.take (k + 1))) (k + 2) wc ∧ Below w.heap.size w wc)
      case first =>
        by_cases q0 : x.op = 0
        · have d0 : (x.op == 0) = true := by simpa using q0
          clear q0
          go_wp2_with fail
          as_aux_lemma =>
            rcases fault_cases y.text.size x.sp with hbad | hok
            · have Hbad := Lib.hid hbad
              clear hbad
              refine (do_bad w.heap.size h l a _ H3' y Hy.out x.A x.c x.sp (hr3.more hs3b) (by omega) Hbad.out).mono ?_
              rintro e W4 ⟨rfl, hb4⟩
              have hz4 := hb4.size
              have X4 := X3.below hb4 X3.lt
              have x2' := X4.cell 2
              simp at x2'
              go_wp2_with fail
              refine (spans_walk x.A x.c x.sp _ ((hr3.below (hb4.mono hs3b)).more (by omega)) (by omega)).mono ?_
              rintro e W5 ⟨v5, rfl, ho5, hb5⟩
              have hb35 := hb4.trans (hb5.mono hz4)
              obtain ⟨A5, c5, rfl⟩ := own_form ho5
              have hR5 := Rd.of_own ho5
              clear ho5
              go_wp2_with fail
              refine (rdo_bad w.heap.size (w1.heap.size + 2) v1 v2 tx fr a _ (R3.below hb35) y.text Hyt.out _ _ _ hR5 (by omega) Hbad.out).mono ?_
              rintro e W6 ⟨rfl, hb6⟩
              have hb36 := hb35.trans (hb6.mono hb35.size)
              go_wp2_with fail
              refine (error_yes _ _ _ (hg.size (hbw.trans (hb36.mono hs3b))) rfl).mono ?_
              rintro e W7 ⟨rfl, hb7⟩
              have hb37 := hb36.trans (hb7.mono hb36.size)
              go_wp2_with fail
              go_meet
              exact ⟨tie_mk (H3'.below hb37) Hsub.out (R3.below hb37) LK (by omega) (by omega), hbw.trans (hb37.mono hs3b)⟩
            · have Hok := Lib.hid hok
              clear hok
              refine (do_ok w.heap.size h l a _ H3' y Hy.out x.A x.c x.sp (hr3.more hs3b) (by omega) hs3b (by omega) (by omega) (by omega) hnl Hok.out HN3.out).mono ?_
              rintro e W4 ⟨rfl, ⟨v, H4⟩, hb4, HK4⟩
              have hz4 := hb4.size
              have R4 := R3.keep fun k hk => HK4 k (Hsub.out k hk)
              have X4 : Blk W4 wr.heap.size 80 #[Value.int IntKind.i64 x.op, Value.int IntKind.i64 x.n, Value.slice x.A x.sp.length x.c] := (HK4 _ Hsx.out).trans X3
              have x2' := X4.cell 2
              simp at x2'
              have HK4' := Lib.hid HK4
              clear HK4
              go_wp2_with fail
              refine (spans_walk x.A x.c x.sp _ ((hr3.below hb4).more (by omega)) (by omega)).mono ?_
              rintro e W5 ⟨v5, rfl, ho5, hb5⟩
              have hz5 := hb5.size
              obtain ⟨A5, c5, rfl⟩ := own_form ho5
              have hR5 := Rd.of_own ho5
              clear ho5
              go_wp2_with fail
              refine (rdo_ok w.heap.size (w1.heap.size + 2) v1 v2 tx fr a _ (R4.below hb5) y.text Hyt.out _ _ _ hR5 (by omega) (by omega) (by have := Hlen.out.1; omega) (by omega) (by omega) Hok.out).mono ?_
              rintro e W6 ⟨rfl, ⟨v1', v2', R6, HO6, HN6⟩, hb6⟩
              have hz6 := hb6.size
              have HO6' := Lib.hid HO6
              have HN6' := Lib.hid HN6
              clear HO6 HN6
              have hbw6 : Below w.heap.size w W6 := ((hbw.trans hb4).trans (hb5.mono (by omega))).trans hb6
              go_wp2_with fail
              refine (error_yes 0 0 _ (hg.size hbw6) rfl).mono ?_
              rintro e W7 ⟨rfl, hb7⟩
              have hS := applyL_len (text := y.text.data.toList) (l := x.sp) (by rw [dlen]; exact Hok.out)
              rw [dlen] at hS
              go_wp2_with fail
              go_meet
              exact ⟨tie_push (H4.below hb5) Hsub.out R6 HO6'.out HN6'.out hb7 LK Hy.out (by omega) (by rw [mk_size]; omega) (by omega), hbw6.trans (hb7.mono (by omega))⟩
        have d0 : (x.op == 0) = false := by simpa using q0
        by_cases q1 : x.op = 1
        · have d1 : (x.op == 1) = true := by simpa using q1
          clear q0 q1
          go_wp2_with fail
          as_aux_lemma =>
            rcases Hval.out with hf | ⟨f, hf, hfl2⟩
            · have Hf := Lib.hid hf
              clear hf
              refine (undo_no w.heap.size h l a _ H3' y Hy.out (-1) Hf.out (by omega)).mono ?_
              rintro e W4 ⟨rfl, hb4⟩
              have R4 := R3.below hb4
              obtain ⟨g, cap, rfl, hgl, cf⟩ := fint_at R4.2.2.2.1 Hyf.out
              rw [Hf.out] at cf
              have r1 := R4.1.cell 1
              have r2 := R4.1.cell 2
              simp at r1 r2
              have j1 : (0 : Int) ≤ (a : Int) := by omega
              have j2 : (a : Int) < (fr.length : Int) := by omega
              go_wp2_with fail
              go_quiet (fail)
              go_wp2_with fail
              go_meet
              exact ⟨tie_mk ((H3'.below hb4).drewN _) Hsub.out R4 LK (by omega) (by omega), below_drewN (hbw.trans (hb4.mono hs3b)) _⟩
            · have Hf := Lib.hid hf
              clear hf
              have hfl3 : f < l.length := by have := Hlen.out.2; omega
              refine (undo_walk w.heap.size h l a _ H3' y Hy.out f Hf.out hfl3).mono ?_
              rintro e W4 ⟨rfl, H4, hb4, HK4⟩
              have R4 := R3.keep fun k hk => HK4 k (Hsub.out k hk)
              clear HK4
              obtain ⟨g, cap, rfl, hgl, cf⟩ := fint_at R4.2.2.2.1 Hyf.out
              rw [Hf.out] at cf
              have r1 := R4.1.cell 1
              have r2 := R4.1.cell 2
              have rf := R4.1.frozen 2
              simp at r1 r2
              have j1 : (0 : Int) ≤ (a : Int) := by omega
              have j2 : (a : Int) < (fr.length : Int) := by omega
              go_wp2_with fail
              go_quiet (fail)
              go_wp2_with fail
              have r1' : (World.drewN W4 nq).cell? ⟨w1.heap.size + 2, 1, none⟩ = _ := r1
              have r2' : (World.drewN W4 nq).cell? ⟨w1.heap.size + 2, 2, none⟩ = _ := r2
              have rf' : (World.drewN W4 nq).frozen? ⟨w1.heap.size + 2, 2, none⟩ = false := rf
              have cf' : (World.drewN W4 nq).cell? ⟨g, a, none⟩ = _ := cf
              have HH : HistAt N3 (World.drewN W4 nq) w.heap.size h l f := H4
              have RR : RefV (World.drewN W4 nq) w.heap.size (w1.heap.size + 2) v1 (.slice (some ⟨g, 0, none⟩) fr.length cap) tx fr a := R4
              have hbq : Below w.heap.size w (World.drewN W4 nq) := below_drewN (hbw.trans hb4) _
              clear r1 r2 rf cf H4 R4 hb4
              generalize World.drewN W4 nq = W5 at *
              go_still_tail 13, (by kernel_rfl)
              change wpList _ _ _ _ _ W5.drew
              go_wp2_with fail
              go_meet
              exact ⟨tie_set (a := a) (HH.drewN 1) Hsub.out RR LK (by omega) (by omega) hfl3 rfl, hbq.drew.setCell (p := ⟨w1.heap.size + 2, 2, none⟩) (by show w.heap.size ≤ w1.heap.size + 2; omega) _⟩
        have d1 : (x.op == 1) = false := by simpa using q1
        by_cases q2 : x.op = 2
        · have d2 : (x.op == 2) = true := by simpa using q2
          clear q0 q1 q2
          as_aux_lemma =>
            by_cases hn : 0 ≤ x.n ∧ x.n < y.nx.length
            · obtain ⟨hn0, hn1⟩ := hn
              obtain ⟨n, en⟩ : ∃ n : Nat, x.n = n := ⟨x.n.toNat, by omega⟩
              rw [en] at x1 hn1 hn0
              have En := Lib.hid en
              clear en
              have hnn : n < y.nx.length := by omega
              obtain ⟨m, hm⟩ : ∃ m, y.nx[n]? = some m := ⟨_, List.getElem?_eq_getElem hnn⟩
              have hml : m < l.length := by
                have h1 := List.mem_of_getElem? hm
                rw [Hyn.out] at h1
                have := nextOf_lt h1
                have := Hlen.out.2
                omega
              have Hm := Lib.hid hm
              clear hm
              go_wp2_with fail
              refine (redo_yes w.heap.size h l a _ H3' y Hy.out n hnn hnl m Hm.out hml).mono ?_
              rintro e W4 ⟨rfl, H4, hb4, HK4⟩
              have R4 := R3.keep fun k hk => HK4 k (Hsub.out k hk)
              have X4 : Blk W4 wr.heap.size 80 #[Value.int IntKind.i64 x.op, Value.int IntKind.i64 n, Value.slice x.A x.sp.length x.c] := by rw [← En.out]; exact (HK4 _ Hsx.out).trans X3
              have hnv4 := own_of_block hnv fun k hk => HK4 k (Hsn.out k hk)
              have Hyn' : Hid (nextOf fr a fr.length = y.nx) := Hyn.out.symm
              rw [Hyn'.out] at hnv4
              generalize hnlen : (nextOf fr a fr.length).length = nlen
              have hnle : Hid (nlen = y.nx.length) := by rw [← hnlen, Hyn'.out]; rfl
              clear hnlen HK4
              obtain ⟨g, cap, hv, _, hgl⟩ := hnv4.form (by omega)
              have hAn : An = some ⟨g, 0, none⟩ := by injection hv
              rw [hAn]
              have cf : W4.cell? ⟨g, n, none⟩ = some (.int .i64 m) := own_cell (cap := cap) (by rw [← hv]; exact hnv4) n _ (by simp [ints, Hm.out])
              clear hv hnv hnv4 hAn
              have x1' := X4.cell 1
              have rf := R4.1.frozen 2
              have r2 := R4.1.cell 2
              simp at x1' r2
              have j1 : (0 : Int) ≤ (n : Int) := by omega
              have j2 : (n : Int) < (nlen : Int) := by rw [hnle.out]; omega
              go_wp2_with fail
              go_meet
              exact ⟨tie_set (a := a) H4 Hsub.out R4 LK (by omega) (by omega) hml rfl, (hbw.trans hb4).setCell (p := ⟨w1.heap.size + 2, 2, none⟩) (by show w.heap.size ≤ w1.heap.size + 2; omega) _⟩
            · go_wp2_with fail
              refine (redo_no w.heap.size h l a _ H3' y Hy.out x.n (by omega) hnl).mono ?_
              rintro e W4 ⟨rfl, hb4⟩
              have R4 := R3.below hb4
              have X4 := X3.below hb4 X3.lt
              have x1' := X4.cell 1
              simp at x1'
              have hnle : (nextOf fr a fr.length).length = y.nx.length := by rw [Hyn.out]
              generalize (nextOf fr a fr.length).length = nlen at *
              by_cases hn0 : 0 ≤ x.n
              · have hn1 : (nlen : Int) ≤ x.n := by omega
                clear hnle hn
                go_wp2_with fail
                go_meet
                exact ⟨tie_mk (H3'.below hb4) Hsub.out R4 LK (by omega) (by omega), hbw.trans (hb4.mono hs3b)⟩
              · have hn1 : x.n < 0 := by omega
                clear hnle hn hn0
                go_wp2_with fail
                go_meet
                exact ⟨tie_mk (H3'.below hb4) Hsub.out R4 LK (by omega) (by omega), hbw.trans (hb4.mono hs3b)⟩
        have d2 : (x.op == 2) = false := by simpa using q2
        clear q0 q1 q2
        as_aux_lemma =>
          have R30 := R3
          obtain ⟨gt, capt, rfl, htl, _⟩ := text_at R3.2.2.1 Hyt.out
          by_cases hn : 0 ≤ x.n ∧ x.n < l.length
          · obtain ⟨hn0, hn1⟩ := hn
            obtain ⟨n, en⟩ : ∃ n : Nat, x.n = n := ⟨x.n.toNat, by omega⟩
            rw [en] at x1 hn1 hn0
            have En := Lib.hid en
            clear en
            have hnn : n < l.length := by omega
            go_wp2_with fail
            refine (go_yes w.heap.size h l a _ n H3' hnn).mono ?_
            rintro e W4 ⟨rfl, H4, hb4, HK4⟩
            have R4 := R3.keep fun k hk => HK4 k (Hsub.out k hk)
            have X4 : Blk W4 wr.heap.size 80 #[Value.int IntKind.i64 x.op, Value.int IntKind.i64 n, Value.slice x.A x.sp.length x.c] := by rw [← En.out]; exact (HK4 _ Hsx.out).trans X3
            clear HK4
            have x1' := X4.cell 1
            have rf := R4.1.frozen 2
            have r0 := R4.1.cell 0
            have r2 := R4.1.cell 2
            simp at x1' r2 r0
            have d3 : decide ((0 : Int) ≤ (n : Int)) = true := by simp
            have d4 : decide (n < tx.length) = true := by have := Hlen.out.1; simp; omega
            go_wp2_with fail
            go_quiet (fail)
            go_wp2_with fail
            go_meet
            exact ⟨tie_set (a := a) (H4.drewN _) Hsub.out R4 LK (by omega) (by omega) hnn rfl, (below_drewN (hbw.trans hb4) _).setCell (p := ⟨w1.heap.size + 2, 2, none⟩) (by show w.heap.size ≤ w1.heap.size + 2; omega) _⟩
          · go_wp2_with fail
            refine (go_no w.heap.size h l a _ x.n H3' (by omega)).mono ?_
            rintro e W4 ⟨rfl, rfl⟩
            have r0 := R3.1.cell 0
            simp at r0
            by_cases hn0 : 0 ≤ x.n
            · have d3 : decide (0 ≤ x.n) = true := by simpa using hn0
              have d4 : decide (x.n < (tx.length : Int)) = false := by have := Hlen.out.1; simp; omega
              clear hn hn0
              go_wp2_with fail
              go_quiet (fail)
              go_wp2_with fail
              go_meet
              exact ⟨tie_mk (H3'.drewN _) Hsub.out R3 LK (by omega) (by omega), below_drewN hbw _⟩
            · have d3 : decide (0 ≤ x.n) = false := by simpa using hn0
              clear hn hn0
              go_wp2_with fail
              go_quiet (fail)
              go_wp2_with fail
              go_meet
              exact ⟨tie_mk (H3'.drewN _) Hsub.out R3 LK (by omega) (by omega), below_drewN hbw _⟩
      case rest =>
        as_aux_lemma =>
          clear Hy Hyn Hyf Hyt Hlen LK hln ha hys hfl hRlt hnv R3 X3 H3' HN3 Hsub Hsn Hsx x0 x1 x2 hb2 hb3 hs2 hs3 hbw hs3b hr3 hnl Hval hrx
          obtain ⟨⟨v1, v2, l, tx, fr, a, HT, RT, LK, hln⟩, hbw⟩ := hcut
          have hbc := hbw.size
          obtain ⟨ln1, ln2⟩ := LK.len
          have ha : a < l.length := by have := RT.2.2.2.2.2; omega
          obtain ⟨y, hy, hyt, hyf, hyn, hys⟩ := LK.at_ ha
          have hfl : fr.length ≤ 1048577 := by omega
          have hfl2 : fr.length ≤ 1048576 := by omega
          have Hlen := Lib.hid (And.intro ln1 ln2)
          have Hyn := Lib.hid hyn
          have Hyt := Lib.hid hyt
          have Hy := Lib.hid hy
          clear ln1 ln2 hyn hyf hyt hy hfl
          have hnl : y.nx.length ≤ 1048576 := by rw [Hyn.out]; exact Nat.le_trans (nextOf_len _ _ _) hfl2
          go_wp2_with fail
          refine (text_walk w.heap.size h l a _ HT y Hy.out).mono ?_
          rintro e w' ⟨rfl, n1, rfl⟩
          go_wp2_with fail
          refine (at_walk w.heap.size h l a _ (HT.drewN n1)).mono ?_
          rintro e w' ⟨rfl, rfl⟩
          go_wp2_with fail
          refine (len_walk w.heap.size h l a _ (HT.drewN n1)).mono ?_
          rintro e w' ⟨rfl, rfl⟩
          go_wp2_with fail
          refine (next_walk2 w.heap.size h l a _ (HT.drewN n1) y Hy.out hnl).mono ?_
          have RT0 : RefV (World.drewN wc n1) w.heap.size (w1.heap.size + 2) v1 v2 tx fr a := RT
          have HT0 : HistAt (NB (w1.heap.size + 2) v1 v2) (World.drewN wc n1) w.heap.size h l a := HT
          have hbw0 : Below w.heap.size w (World.drewN wc n1) := below_drewN hbw _
          clear RT HT hbw
          generalize World.drewN wc n1 = W4 at *
          have hbc4 := hbw0.size
          have Hnx : Hid (nextOf fr a fr.length = y.nx) := Hyn.out.symm
          clear Hyn
          generalize y.nx = nxs at *
          generalize y.text = Y at *
          obtain ⟨wo, rfl⟩ : ∃ wo : World, wo = wr := ⟨_, rfl⟩
          rintro e W5 (⟨g, cv, rfl, hgB, hown5, hb5⟩ | ⟨rfl, rfl, hb5⟩)
          · have hz5 := hb5.size
            have R5 := RT0.below hb5
            go_wp2_with fail
            have h6 := rnext_walk w.heap.size (w1.heap.size + 2) v1 v2 tx fr a W5 R5 hfl2
            rw [Hnx.out] at h6
            refine h6.mono ?_
            clear h6
            rintro e W6 ⟨nv, rfl, hnv, hb6⟩
            have hz6 := hb6.size
            have R6 := R5.below hb6
            obtain ⟨An2, cn2, rfl⟩ := own_form hnv
            have hR2 := Rd.of_own hnv
            have hown6 := own_of_block hown5 fun k hk => hb6.block k (hown5.lt k hk).2
            have hR1 : Rd W6 W6.heap.size 1 (some ⟨g, 0, none⟩) nxs.length (ints nxs) := Rd.of_own hown6
            go_wp2_with fail
            refine (sameInts_walk _ _ _ _ nxs nxs W6 hR1 hR2 hnl hnl).mono ?_
            rintro e W7 ⟨rfl, hb7⟩
            have hown7 := own_of_block hown6 fun k hk => hb7.block k (hown6.lt k hk).2
            have R7 := R6.below hb7
            have hb47 : Below W4.heap.size W4 W7 := (hb5.trans (hb6.mono hz5)).trans (hb7.mono (by omega))
            obtain ⟨gt, capt, hv1, htl, ct⟩ := text_at R7.2.2.1 Hyt.out
            subst hv1
            have r0 := R7.1.cell 0
            have r2 := R7.1.cell 2
            simp at r0 r2
            rw [← Hlen.out.1] at r0
            have j1 : (0 : Int) ≤ (a : Int) := by omega
            have j2 : (a : Int) < (l.length : Int) := by omega
            rw [decide_eq_true rfl]
            go_wp2_with fail
            go_quiet (fail)
            go_wp2_with fail
            go_loopw [25] (fun j wq => ∃ n : Nat, n ≤ nxs.length ∧ j = .int .i64 n ∧ (∃ xs, wq.ownsRow W4.heap.size 3 1 (.slice (some ⟨g, 0, none⟩) nxs.length cv) nxs.length xs) ∧ Below W4.heap.size W4 wq) (fun j _ => nxs.length - (intOf j).toNat)
            case atStart => exact ⟨0, Nat.zero_le _, rfl, ⟨_, hown7⟩, below_drewN hb47 _⟩
            case round =>
              obtain ⟨n, hn, rfl, ⟨xs, hox⟩, hbx⟩ := hrel
              by_cases hlt2 : n < nxs.length
              · have hxl : xs.length = nxs.length * 1 := hox.1
                have hu : xs[n]? = some xs[n] := List.getElem?_eq_getElem (by omega)
                have cu := own_cell hox n _ hu
                have fu := hox.frozenAt n
                generalize xs[n] = u at *
                have i3 : (0 : Int) ≤ (n : Int) := by omega
                have i4 : (n : Int) < (nxs.length : Int) := by omega
                clear hxl hu
                go_wp2_with fail
                go_roundw
                case rel => exact ⟨n + 1, by omega, by go_num, ⟨_, (hox.stored n _).1⟩, hbx.setCell (p := ⟨g, n, none⟩) hgB _⟩
                case measure => simp [intOf]; omega
              · obtain rfl : n = nxs.length := by omega
                go_wp2_with fail
                go_roundw
                case rel => exact ⟨k + 1, by omega, by go_num, ⟨_, _, l, tx, fr, a, HT0.below hbx, RT0.below hbx, LK, hln⟩, hbw0.trans (hbx.mono hbc4)⟩
                case measure => simp [intOf]; omega
          · have hz5 := hb5.size
            have R5 := RT0.below hb5
            go_wp2_with fail
            have h6 := rnext_walk w.heap.size (w1.heap.size + 2) v1 v2 tx fr a W5 R5 hfl2
            rw [Hnx.out] at h6
            refine h6.mono ?_
            clear h6
            rintro e W6 ⟨nv, rfl, hnv, hb6⟩
            have hz6 := hb6.size
            have R6 := R5.below hb6
            obtain ⟨An2, cn2, rfl⟩ := own_form hnv
            have hR2 := Rd.of_own hnv
            go_wp2_with fail
            refine (sameInts_walk none An2 0 cn2 [] [] W6 Rd.none_ hR2 hnl hnl).mono ?_
            rintro e W7 ⟨rfl, hb7⟩
            have R7 := R6.below hb7
            have hb47 : Below W4.heap.size W4 W7 := (hb5.trans (hb6.mono hz5)).trans (hb7.mono (by omega))
            obtain ⟨gt, capt, hv1, htl, ct⟩ := text_at R7.2.2.1 Hyt.out
            subst hv1
            have r0 := R7.1.cell 0
            have r2 := R7.1.cell 2
            simp at r0 r2
            rw [← Hlen.out.1] at r0
            have j1 : (0 : Int) ≤ (a : Int) := by omega
            have j2 : (a : Int) < (l.length : Int) := by omega
            rw [decide_eq_true rfl]
            go_wp2_with fail
            go_quiet (fail)
            go_wp2_with fail
            go_loopw [25] (fun j wq => j = .int .i64 0 ∧ Below W4.heap.size W4 wq) (fun j _ => 1)
            case atStart => exact ⟨rfl, below_drewN hb47 _⟩
            case round =>
              obtain ⟨rfl, hbx⟩ := hrel
              go_wp2_with fail
              go_roundw
              case rel => exact ⟨k + 1, by omega, by go_num, ⟨_, _, l, tx, fr, a, HT0.below hbx, RT0.below hbx, LK, hln⟩, hbw0.trans (hbx.mono hbc4)⟩
              case measure => simp [intOf]; omega
    · obtain rfl : k = L.length := by omega
      go_wp2_with fail
      go_ret
      exact ⟨rfl, hb⟩
end Go.Proofs.YtffcfnnbdmihaaaDoor.hn
