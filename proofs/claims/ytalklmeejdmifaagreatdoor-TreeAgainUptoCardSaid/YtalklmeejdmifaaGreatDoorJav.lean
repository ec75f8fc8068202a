/-
  JOINED of the texts DM DO
-/
import Derived.Test.YtalklmeejdmifaaGreatDoorJau
namespace Go.Proofs.YtalklmeejdmifaaGreatDoor
open Go.RowKit
def PutC (p : Tr.PT) : Prop := ∀ (w : World) (F : Nat → Prop) (fp : List Nat) (v : Value) (a : Nat), RnF w F p fp v → fp.Nodup → a + Tr.wideP p ≤ 1000000000000 →
 Calls Tryz.prog 53 #[v, .int .i64 (a : Int)] w fun e w' => e = .returned (.int .i64 ((Tr.putP p a).end_ : Int)) ∧ Turn fp w w' ∧ NpF w' F p a fp v
theorem Turn.of_mem {X Y : List Nat} {w w' w1 : World} (h : Turn Y w w1) (h' : Turn X w1 w') (hX : ∀ x ∈ X, x ∈ Y) : Turn Y w w' := ⟨h'.size.trans h.size, fun x hx => (h'.oth x fun hm => hx (hX x hm)).trans (h.oth x hx), h.nodes, h.calm.trans h'.calm⟩
theorem Turn.drewN {X : List Nat} {w w' : World} (h : Turn X w w') (n : Nat) : Turn X w (w'.drewN n) := ⟨h.size, h.oth, h.nodes, h.calm.os, h.calm.tape, h.calm.output⟩
theorem Turn.cell {X : List Nat} {w w' : World} (h : Turn X w w') {q i : Nat} {v : Value} (hq : q ∉ X) (hc : w.cell? ⟨q, i, none⟩ = some v) : w'.cell? ⟨q, i, none⟩ = some v := (World.cell?_of_block (a := ⟨q, i, none⟩) (h.oth q hq)).trans hc
theorem wides_get : ∀ (l1 : List Tr.PT) (p : Tr.PT) (l2 : List Tr.PT), Tr.widesP l1 + Tr.wideP p ≤ Tr.widesP (l1 ++ p :: l2)
 | [], p, l2 => by simp only [List.nil_append, Tr.widesP]; omega
 | q :: l1, p, l2 => by
  have := wides_get l1 p l2
  simp only [List.cons_append, Tr.widesP]
  omega
set_option maxHeartbeats 16000000 in
set_option maxRecDepth 100000 in
theorem put_branch {k x : Nat} {l : List Tr.PT} (hk : 2 ≤ k) (hlen : l.length ≤ 1000000000) (IH : ∀ p ∈ l, PutC p) : PutC (.branch k x l) := by
 intro w0 F fp v a h hnd ha
 obtain ⟨g, fps, rfl, rfl, hF, A, c, vs, hB, hc, hr, hp⟩ := h
 have hgf : g ∉ fps := (List.nodup_cons.1 hnd).1
 have hnd := (List.nodup_cons.1 hnd).2
 have hB : Blk w0 g 121 (genC k 0 [] A l.length c 0 0 0 0 false) := hB
 have hT : Turn (g :: fps) w0 w0 := ⟨rfl, fun _ _ => rfl, fun y hy => by
  rcases List.mem_cons.1 hy with rfl | hy
  ·exact ⟨_, _, _, _, _, _, _, _, _, _, _, hB⟩
  ·exact RnsF.nodes _ _ _ hp y hy, Calm.refl _⟩
 have hG : Turn [g] w0 w0 := ⟨rfl, fun _ _ => rfl, fun y hy => by simp only [List.mem_singleton] at hy; subst hy; exact ⟨_, _, _, _, _, _, _, _, _, _, _, hB⟩, Calm.refl _⟩
 have hwide : a + Tr.widesP l ≤ 1000000000000 := by unfold Tr.wideP at ha; exact ha
 have hptr := hp.ptrs
 have HV : Hid (Tr.putP (.branch k x l) a = Tr.putsP l ⟨a, -1, -1, false⟩) := by show _ = _; unfold Tr.putP; rfl
 have HN : Hid (∀ w', Turn (g :: fps) w0 w' → Blk w' g 121 (genC k 0 [] A l.length c a (Tr.putsP l ⟨a, -1, -1, false⟩).end_ (Tr.putsP l ⟨a, -1, -1, false⟩).from_ (Tr.putsP l ⟨a, -1, -1, false⟩).to_ (Tr.putsP l ⟨a, -1, -1, false⟩).lacks) → NpsF w' F l a fps vs → NpF w' F (.branch k x l) a (g :: fps) (.pointer (some ⟨g, 0, none⟩))) := fun w' hT hB hN =>
  ⟨g, fps, rfl, rfl, hF, A, c, vs, by rw [HV.out]; exact hB, hc, hr.turn hT hptr, hN⟩
 have HR : Hid (∀ w', Turn (g :: fps) w0 w' → RowF w' F A vs) := fun w' hT => hr.turn hT hptr
 rw [HV.out]
 clear HV ha hptr
 obtain ⟨s0, hs0⟩ : ∃ s0 : Tr.Pl, s0 = ⟨a, -1, -1, false⟩ := ⟨_, rfl⟩
 have He0 : Hid (s0.end_ = a) := by show _ = _; rw [hs0]
 have Hs0 := Lib.hid hs0
 rw [← hs0] at HN ⊢
 clear hs0
 have e0 : ((k : Int) == 0) = false := by simp; omega
 have e1 : ((k : Int) == 1) = false := by simp; omega
 have Hlen := Lib.hid hlen
 have Hwide := Lib.hid hwide
 clear hk hF hc hr hlen hwide
 go_enter Tryz.func53, Tryz.ntmps53
 obtain ⟨z0, z1, z2, z3, z4, z5, z6, z7, z8⟩ := gen_cells hB
 have y4 := hB.frozen 4
 have y5 := hB.frozen 5
 have y6 := hB.frozen 6
 have y7 := hB.frozen 7
 have y8 := hB.frozen 8
 go_upto_region 2 with fail
 have hG := hG.trans (gen_turn hB 4 (.int .i64 (a : Int)))
 have hB := (gen_set hB).1 (a : Int)
 clear z0 z1 z2 z3 z4 z5 z6 z7 z8 y4 y5 y6 y7 y8
 generalize w0.setCell ⟨g, 4, none⟩ (.int .i64 (a : Int)) = w2 at *
 obtain ⟨z0, z1, z2, z3, z4, z5, z6, z7, z8⟩ := gen_cells hB
 have y4 := hB.frozen 4
 have y5 := hB.frozen 5
 have y6 := hB.frozen 6
 have y7 := hB.frozen 7
 have y8 := hB.frozen 8
 go_upto_region 3 with fail
 have hG := hG.trans (gen_turn hB 6 (.int .i64 (-1)))
 have hB := (gen_set hB).2.2.1 (-1)
 clear z0 z1 z2 z3 z4 z5 z6 z7 z8 y4 y5 y6 y7 y8
 generalize w2.setCell ⟨g, 6, none⟩ (.int .i64 (-1)) = w3 at *
 obtain ⟨z0, z1, z2, z3, z4, z5, z6, z7, z8⟩ := gen_cells hB
 have y4 := hB.frozen 4
 have y5 := hB.frozen 5
 have y6 := hB.frozen 6
 have y7 := hB.frozen 7
 have y8 := hB.frozen 8
 go_upto_region 4 with fail
 have hG := hG.trans (gen_turn hB 7 (.int .i64 (-1)))
 have hB := (gen_set hB).2.2.2.1 (-1)
 clear z0 z1 z2 z3 z4 z5 z6 z7 z8 y4 y5 y6 y7 y8
 generalize w3.setCell ⟨g, 7, none⟩ (.int .i64 (-1)) = w4 at *
 obtain ⟨z0, z1, z2, z3, z4, z5, z6, z7, z8⟩ := gen_cells hB
 have y4 := hB.frozen 4
 have y5 := hB.frozen 5
 have y6 := hB.frozen 6
 have y7 := hB.frozen 7
 have y8 := hB.frozen 8
 go_upto_region 11 with fail
 have hG := hG.trans (gen_turn hB 8 (.bool false))
 have hB := (gen_set hB).2.2.2.2 false
 clear z0 z1 z2 z3 z4 z5 z6 z7 z8 y4 y5 y6 y7 y8
 generalize w4.setCell ⟨g, 8, none⟩ (.bool false) = w5 at *
 have hT := hT.of_mem hG (fun y hy => by simp only [List.mem_singleton] at hy; subst hy; exact List.mem_cons_self ..)
 have hp := RnsF.turn hG _ _ _ (fun y hy hm => by simp only [List.mem_singleton] at hm; subst hm; exact hgf hy) hp
 clear hG
 go_wp2_with fail
 go_loopg [1, 5] l.length (fun m v u wr => ∃ l1 l2 fps1 fps2 vs1 vs2, Hid (l = l1 ++ l2) ∧ Hid (fps = fps1 ++ fps2) ∧ Hid (vs = vs1 ++ vs2) ∧ v = .int .i64 ((Tr.putsP l1 s0).end_ : Int) ∧ u = .int .i64 (l1.length : Int) ∧ l2.length ≤ m ∧ Turn (g :: fps) w0 wr ∧ Blk wr g 121 (genC k 0 [] A l.length c a 0 (Tr.putsP l1 s0).from_ (Tr.putsP l1 s0).to_ (Tr.putsP l1 s0).lacks) ∧ NpsF wr F l1 s0.end_ fps1 vs1 ∧ RnsF wr F l2 fps2 vs2)
 case atStart =>
  refine ⟨[], l, [], fps, [], vs, rfl, rfl, rfl, ?_, rfl, Nat.le_refl _, hT, ?_, ⟨rfl, rfl⟩, hp⟩
  ·simp only [Tr.putsP]; rw [He0.out]
  ·simp only [Tr.putsP]; rw [Hs0.out]; exact hB
 case round =>
  clear hT hB hp
  obtain ⟨l1, l2, fps1, fps2, vs1, vs2, Hl, Hf, Hv, rfl, rfl, hm, hT, hB, hN1, hN2⟩ := hrel
  have hG : Turn [g] wr wr := ⟨rfl, fun _ _ => rfl, fun y hy => by simp only [List.mem_singleton] at hy; subst hy; exact ⟨_, _, _, _, _, _, _, _, _, _, _, hB⟩, Calm.refl _⟩
  rcases l2 with _ | ⟨p, l2⟩
  ·obtain ⟨rfl, rfl⟩ := hN2
   have hl : l1 = l := by rw [Hl.out, List.append_nil]
   have hf : fps1 = fps := by rw [Hf.out, List.append_nil]
   have hv : vs1 = vs := by rw [Hv.out, List.append_nil]
   subst hl hf hv
   clear Hl Hf Hv hm HR IH
   generalize hst : Tr.putsP l1 s0 = st at *
   have d0 : decide (l1.length < l1.length) = false := by simp
   obtain ⟨z0, z1, z2, z3, z4, z5, z6, z7, z8⟩ := gen_cells hB
   have y4 := hB.frozen 4
   have y5 := hB.frozen 5
   have y6 := hB.frozen 6
   have y7 := hB.frozen 7
   have y8 := hB.frozen 8
   go_upto_region 23 with fail
   have hG := hG.trans (gen_turn hB 5 (.int .i64 (st.end_ : Int)))
   have hB := (gen_set hB).2.1 (st.end_ : Int)
   clear z0 z1 z2 z3 z4 z5 z6 z7 z8 y4 y5 y6 y7 y8
   generalize wr.setCell ⟨g, 5, none⟩ (.int .i64 (st.end_ : Int)) = w6 at *
   have hT := hT.of_mem hG (fun y hy => by simp only [List.mem_singleton] at hy; subst hy; exact List.mem_cons_self ..)
   have hN := NpsF.turn hG _ _ _ _ (fun y hy hm => by simp only [List.mem_singleton] at hm; subst hm; exact hgf hy) hN1
   rw [He0.out] at hN
   go_wp2_with fail
   go_ret
   subst hst
   exact ⟨rfl, hT, HN.out _ hT hB hN⟩
  ·obtain ⟨fp, fps2', v, vs2', rfl, rfl, hpp, hN2⟩ := hN2
   have hlt : l1.length < l.length := by rw [Hl.out]; simp
   have hlen := Hlen.out
   have i0 : (0 : Int) ≤ (l1.length : Int) := by omega
   have i1 : (l1.length : Int) < (l.length : Int) := by omega
   have hvl := hN1.len
   obtain ⟨bb, oo, rfl, hcell⟩ := (HR.out _ hT).at_ (i := l1.length) (u := v) (by rw [Hv.out, ← hvl]; simp)
   have hx := IH p (by rw [Hl.out]; simp) wr F fp v (Tr.putsP l1 s0).end_ hpp (by have := hnd; rw [Hf.out] at this; exact (List.nodup_append.1 (List.nodup_append.1 this).2.1).1) (by
    rw [Tr.puts_end, He0.out]
    have := wides_get l1 p l2
    rw [← Hl.out] at this
    have := Hwide.out
    omega)
   obtain ⟨q0, rfl⟩ := hpp.form
   obtain ⟨z0, z1, z2, z3, z4, z5, z6, z7, z8⟩ := gen_cells hB
   have y4 := hB.frozen 4
   have y5 := hB.frozen 5
   have y6 := hB.frozen 6
   have y7 := hB.frozen 7
   have y8 := hB.frozen 8
   have Hst : Hid (Tr.putsP (l1 ++ [p]) s0 = Tr.joinP (Tr.putsP l1 s0) (Tr.putP p (Tr.putsP l1 s0).end_)) := Tr.puts_app l1 p s0
   have hN1' : NpsF wr F l1 s0.end_ fps1 vs1 := hN1
   have Hi1 := Lib.hid hlt
   clear hlen hlt
   generalize hst : Tr.putsP l1 s0 = st at *
   generalize hpl : Tr.putP p st.end_ = q at *
   go_wp2_with fail
   refine hx.mono ?_
   clear hx z0 z1 z2 z3 z4 z5 z6 z7 z8 y4 y5 y6 y7 y8 hcell
   rintro e1 w6 ⟨rfl, hTp, hNp⟩
   have hgfp : g ∉ fp := fun hm => hgf (by rw [Hf.out]; simp [hm])
   have hB : Blk w6 g 121 (genC k 0 [] (some ⟨bb, oo, none⟩) l.length c a 0 st.from_ st.to_ st.lacks) := (hTp.oth g hgfp).trans hB
   have hfn := hnd
   rw [Hf.out] at hfn
   have hd1 : ∀ y ∈ fps1, y ∉ fp := fun y hy hm => (List.nodup_append.1 hfn).2.2 y hy y (by simp [hm]) rfl
   have hd2 : ∀ y ∈ fps2', y ∉ fp := fun y hy hm => (List.nodup_append.1 (List.nodup_append.1 hfn).2.1).2.2 y hm y hy rfl
   have hN1 := NpsF.turn hTp _ _ _ _ hd1 hN1
   have hN2 := RnsF.turn hTp _ _ _ hd2 hN2
   have hT := hT.of_mem hTp (fun y hy => List.mem_cons_of_mem _ (by rw [Hf.out]; simp [hy]))
   have hN := NpsF.snoc hN1 (by rw [hst]; exact hNp)
   obtain ⟨q1, kk, tok, tt, A1, m1, c1, eq1, hq1, hBq⟩ := hNp.head
   obtain rfl : q0 = q1 := by simpa using eq1
   rw [hpl] at hBq
   have hqg : q0 ≠ g := fun e => hgfp (e ▸ hq1)
   have Hqg := Lib.hid hqg
   have HfG : Hid (∀ y ∈ fps1 ++ fp, y ≠ g) := fun y hy e => hgf (by rw [Hf.out]; subst e; rcases List.mem_append.1 hy with h | h <;> simp [h])
   have Hf2 : Hid (∀ y ∈ fps2', y ≠ g) := fun y hy e => hgf (by rw [Hf.out]; subst e; simp [hy])
   clear hTp hN1 hNp hd1 hd2 hfn hgfp eq1 hq1 hpl hst hG hN1' hqg
   have hGk : ∀ w', Turn [g] w6 w' → Turn (g :: fps) w0 w' ∧ NpsF w' F (l1 ++ [p]) s0.end_ (fps1 ++ fp) (vs1 ++ [.pointer (some ⟨q0, 0, none⟩)]) ∧ RnsF w' F l2 fps2' vs2' := fun w' hG =>
    ⟨hT.of_mem hG (fun y hy => by simp only [List.mem_singleton] at hy; subst hy; exact List.mem_cons_self ..), NpsF.turn hG _ _ _ _ (fun y hy hm => by simp only [List.mem_singleton] at hm; exact HfG.out y hy hm) hN, RnsF.turn hG _ _ _ (fun y hy hm => by simp only [List.mem_singleton] at hm; exact Hf2.out y hy hm) hN2⟩
   have HG := Lib.hid hGk
   clear hGk hT hN hN2 HfG Hf2
   obtain ⟨F1, hF1⟩ : ∃ F1, F1 = (if st.from_ < 0 then q.from_ else st.from_) := ⟨_, rfl⟩
   obtain ⟨U1, hU1⟩ : ∃ U1, U1 = (if st.to_ < q.to_ then q.to_ else st.to_) := ⟨_, rfl⟩
   have Hst2 : Hid (Tr.putsP (l1 ++ [p]) s0 = ⟨q.end_, F1, U1, st.lacks || q.lacks⟩) := by show _ = _; rw [Hst.out, hF1, hU1]; rfl
   have HF1 := Lib.hid hF1
   have HU1 := Lib.hid hU1
   clear hF1 hU1 Hst
   have hG : Turn [g] w6 w6 := ⟨rfl, fun _ _ => rfl, fun y hy => by simp only [List.mem_singleton] at hy; subst hy; exact ⟨_, _, _, _, _, _, _, _, _, _, _, hB⟩, Calm.refl _⟩
   have hBq := gen_cells hBq
   obtain ⟨_, _, _, _, _, _, p6, p7, p8⟩ := hBq
   obtain ⟨z0, z1, z2, z3, z4, z5, z6, z7, z8⟩ := gen_cells hB
   have y4 := hB.frozen 4
   have y5 := hB.frozen 5
   have y6 := hB.frozen 6
   have y7 := hB.frozen 7
   have y8 := hB.frozen 8
   go_upto_if 90 with fail
   go_cut [90] (fun _ wc => Turn [g] w6 wc ∧ Blk wc g 121 (genC k 0 [] (some ⟨bb, oo, none⟩) l.length c a 0 F1 st.to_ st.lacks))
   case first =>
    by_cases hneg : st.from_ < 0
    ·have hf : Hid (q.from_ = F1) := by show _ = _; rw [HF1.out, if_pos hneg]
     clear HF1 HU1 Hst2 HG
     go_wp2_with fail
     go_meet
     exact ⟨hG.trans (gen_turn hB 6 (.int .i64 q.from_)), by rw [← hf.out]; exact (gen_set hB).2.2.1 q.from_⟩
    ·have hf : Hid (st.from_ = F1) := by show _ = _; rw [HF1.out, if_neg hneg]
     clear HF1 HU1 Hst2 HG
     go_wp2_with fail
     go_meet
     exact ⟨hG, by rw [← hf.out]; exact hB⟩
   case rest =>
   clear hG hB z0 z1 z2 z3 z4 z5 z6 z7 z8 y4 y5 y6 y7 y8 HF1
   obtain ⟨hG, hB⟩ := hcut
   have q7 := hG.cell (fun hm => Hqg.out (by simpa using hm)) p7
   have q8 := hG.cell (fun hm => Hqg.out (by simpa using hm)) p8
   obtain ⟨z0, z1, z2, z3, z4, z5, z6, z7, z8⟩ := gen_cells hB
   have y4 := hB.frozen 4
   have y5 := hB.frozen 5
   have y6 := hB.frozen 6
   have y7 := hB.frozen 7
   have y8 := hB.frozen 8
   go_wp2_with fail
   go_quiet (fail)
   have hG := hG.drewN nq
   have hB : Blk (wc.drewN nq) g 121 (genC k 0 [] (some ⟨bb, oo, none⟩) l.length c a 0 F1 st.to_ st.lacks) := hB
   have q7 : (wc.drewN nq).cell? ⟨q0, 7, none⟩ = _ := q7
   have q8 : (wc.drewN nq).cell? ⟨q0, 8, none⟩ = _ := q8
   clear z0 z1 z2 z3 z4 z5 z6 z7 z8 y4 y5 y6 y7 y8 p6 p7 p8
   generalize wc.drewN nq = wd at *
   obtain ⟨z0, z1, z2, z3, z4, z5, z6, z7, z8⟩ := gen_cells hB
   have y4 := hB.frozen 4
   have y5 := hB.frozen 5
   have y6 := hB.frozen 6
   have y7 := hB.frozen 7
   have y8 := hB.frozen 8
   go_upto_if 106 with fail
   go_cut [106] (fun _ we => Turn [g] wd we ∧ Blk we g 121 (genC k 0 [] (some ⟨bb, oo, none⟩) l.length c a 0 F1 U1 st.lacks))
   case first =>
    have hG0 : Turn [g] wd wd := ⟨rfl, fun _ _ => rfl, fun y hy => by simp only [List.mem_singleton] at hy; subst hy; exact ⟨_, _, _, _, _, _, _, _, _, _, _, hB⟩, Calm.refl _⟩
    by_cases hneg : st.to_ < q.to_
    ·have hf : Hid (q.to_ = U1) := by show _ = _; rw [HU1.out, if_pos hneg]
     clear HU1 Hst2 HG
     go_wp2_with fail
     go_meet
     exact ⟨hG0.trans (gen_turn hB 7 (.int .i64 q.to_)), by rw [← hf.out]; exact (gen_set hB).2.2.2.1 q.to_⟩
    ·have hf : Hid (st.to_ = U1) := by show _ = _; rw [HU1.out, if_neg hneg]
     clear HU1 Hst2 HG
     go_wp2_with fail
     go_meet
     exact ⟨hG0, by rw [← hf.out]; exact hB⟩
   case rest =>
   clear hB z0 z1 z2 z3 z4 z5 z6 z7 z8 y4 y5 y6 y7 y8 HU1
   obtain ⟨hG2, hB⟩ := hcut
   have q8 := hG2.cell (fun hm => Hqg.out (by simpa using hm)) q8
   have hG := hG.trans hG2
   clear hG2 q7
   have Hk : Hid (IntKind.i64.wrap ((l1.length : Int) + 1) = (l1.length : Int) + 1) := by show _ = _; have := Hi1.out; have := Hlen.out; exact IntWalk.i64_in _ (by omega)
   have hkw := Hk.out
   obtain ⟨z0, z1, z2, z3, z4, z5, z6, z7, z8⟩ := gen_cells hB
   have y4 := hB.frozen 4
   have y5 := hB.frozen 5
   have y6 := hB.frozen 6
   have y7 := hB.frozen 7
   have y8 := hB.frozen 8
   cases hql : q.lacks with
   | true =>
    rw [hql] at q8 Hst2
    have HX := Lib.hid (HG.out (wc.setCell ⟨g, 8, none⟩ (.bool true)) (hG.trans (gen_turn hB 8 (.bool true))))
    have hB2 := (gen_set hB).2.2.2.2 true
    clear HG hG
    go_wp2_with fail
    go_roundg l2.length
    case rel =>
     obtain ⟨h1, h2, h3⟩ := HX.out
     refine ⟨l1 ++ [p], l2, fps1 ++ fp, fps2', vs1 ++ [.pointer (some ⟨q0, 0, none⟩)], vs2', by show _ = _; rw [Hl.out, List.append_assoc]; rfl, by show _ = _; rw [Hf.out, List.append_assoc], by show _ = _; rw [Hv.out, List.append_assoc]; rfl, by rw [Hst2.out], by simp, Nat.le_refl _, h1, ?_, h2, h3⟩
     rw [Hst2.out]
     dsimp only
     rw [Bool.or_true]
     exact hB2
    case measure => simp at hm; omega
   | false =>
    rw [hql] at q8 Hst2
    have HX := Lib.hid (HG.out wc hG)
    clear HG hG
    go_wp2_with fail
    go_roundg l2.length
    case rel =>
     obtain ⟨h1, h2, h3⟩ := HX.out
     refine ⟨l1 ++ [p], l2, fps1 ++ fp, fps2', vs1 ++ [.pointer (some ⟨q0, 0, none⟩)], vs2', by show _ = _; rw [Hl.out, List.append_assoc]; rfl, by show _ = _; rw [Hf.out, List.append_assoc], by show _ = _; rw [Hv.out, List.append_assoc]; rfl, by rw [Hst2.out], by simp, Nat.le_refl _, h1, ?_, h2, h3⟩
     rw [Hst2.out]
     dsimp only
     rw [Bool.or_false]
     exact hB
    case measure => simp at hm; omega
mutual
theorem put_all : ∀ p : Tr.PT, Tr.wfP p → PutC p
 | .leaf tok t x, _ => fun w F fp v a h hnd ha => by
  obtain ⟨g, rfl, rfl, hF, hB⟩ := h
  unfold Tr.wideP at ha
  have he : (Tr.putP (.leaf tok t x) a).end_ = a + t.length := by rw [Tr.put_end]; unfold Tr.wideP; rfl
  refine (put_leaf (x := x) hB a ha).mono fun e w' h => ⟨by rw [he]; exact h.1, h.2.1, g, rfl, rfl, hF, h.2.2⟩
 | .gap t x d, _ => fun w F fp v a h hnd ha => by
  obtain ⟨g, rfl, rfl, hF, hB⟩ := h
  have he : (Tr.putP (.gap t x d) a).end_ = a := by rw [Tr.put_end]; unfold Tr.wideP; rfl
  refine (put_gap (x := x) (d := d) hB a).mono fun e w' h => ⟨by rw [he]; exact h.1, h.2.1, g, rfl, rfl, hF, h.2.2⟩
 | .branch k x l, hw => by
  unfold Tr.wfP at hw
  exact put_branch hw.1 hw.2.1 (puts_all l hw.2.2)
theorem puts_all : ∀ l : List Tr.PT, Tr.wfsP l → ∀ p ∈ l, PutC p
 | [], _, p, hp => absurd hp (by simp)
 | q :: l, hw, p, hp => by
  unfold Tr.wfsP at hw
  rcases List.mem_cons.1 hp with he | hp
  ·rw [he]; exact put_all q hw.1
  ·exact puts_all l hw.2 p hp
end
theorem Bn.whole {w : World} {K : Nat → Prop} {h kind : Nat} {pts : List Tr.PT} (hb : Bn w K h kind pts) (at_ : Nat) : ∃ fp, RnF w (fun x => ¬ K x) (.branch kind at_ pts) fp (.pointer (some ⟨h, 0, none⟩)) ∧ fp.Nodup := hb.part at_
mutual
theorem NpF.weak {w : World} {F F' : Nat → Prop} (hF : ∀ x, F x → F' x) : ∀ (p : Tr.PT) (a : Nat) (fp : List Nat) (v : Value), NpF w F p a fp v → NpF w F' p a fp v
 | .leaf k t _, a, fp, v, h => by
  obtain ⟨g, e, rfl, h1, hB⟩ := h
  exact ⟨g, e, rfl, hF _ h1, hB⟩
 | .gap t _ d, a, fp, v, h => by
  obtain ⟨g, e, rfl, h1, hB⟩ := h
  exact ⟨g, e, rfl, hF _ h1, hB⟩
 | .branch k _ l, a, fp, v, h => by
  obtain ⟨g, fps, e, rfl, h1, A, c, vs, hB, hc, hr, hp⟩ := h
  exact ⟨g, fps, e, rfl, hF _ h1, A, c, vs, hB, hc, hr.keep (Nat.le_refl _) (fun _ hb _ => ⟨rfl, hF _ hb⟩), NpsF.weak hF l a fps vs hp⟩
theorem NpsF.weak {w : World} {F F' : Nat → Prop} (hF : ∀ x, F x → F' x) : ∀ (l : List Tr.PT) (a : Nat) (fps : List Nat) (vs : List Value), NpsF w F l a fps vs → NpsF w F' l a fps vs
 | [], _, _, _, h => h
 | p :: l, a, fps, vs, h => by
  obtain ⟨fp, fps', v, vs', rfl, e, hp, hl⟩ := h
  exact ⟨fp, fps', v, vs', rfl, e, NpF.weak hF p a fp v hp, NpsF.weak hF l _ fps' vs' hl⟩
end
theorem tail_leaves (s : Bs) (T : List Tk) (i : Nat) : Tr.tailP s T i = leavesP s T 0 i T.length := by
 unfold Tr.tailP leavesP
 rw [List.take_of_length_le (by rw [List.length_drop]; exact Nat.le_refl _)]
set_option maxHeartbeats 16000000 in
set_option maxRecDepth 100000 in
theorem rparse_walkT (s : Bs) (w : World) (hs : s.length ≤ 1048576) :
  Calls Tryz.prog 16 #[.string ⟨s.toArray⟩] w fun e w' => ∃ q fp, e = .returned (.pointer (some ⟨q, 0, none⟩)) ∧ NpF w' (fun x => w.heap.size ≤ x) (.branch 2 0 (Tr.allP s (Lx.tokR 0 s))) 0 fp (.pointer (some ⟨q, 0, none⟩)) ∧ fp.Nodup ∧ Below w.heap.size w w' := by
 obtain ⟨i0, ji, jz0, jz1, jz2⟩ := info_parts infoRN
 have htk := rtokens_walk s w (by omega)
 have hTl := Lx.tokR_len s.length 0 s (Nat.le_refl _)
 obtain ⟨hS, hW⟩ := Lx.tok_side s (by omega) hTl
 obtain ⟨T, hT⟩ : ∃ T, T = Lx.tokR 0 s := ⟨_, rfl⟩
 rw [← hT] at htk hTl hS hW ⊢
 clear hT
 have X : Txq s T := ⟨hS.good, by omega, by omega⟩
 have hall := Tr.all_fine hS
 have hput : PutC (.branch 2 0 (Tr.allP s T)) := put_all _ (by unfold Tr.wfP; exact ⟨Nat.le_refl _, by omega, hall.2.1⟩)
 have hwide : Tr.wideP (.branch 2 0 (Tr.allP s T)) ≤ 1000000000000 := by
  unfold Tr.wideP
  rw [Tr.wides_text, hall.1]
  omega
 have HW := Lib.hid hwide
 have HTl : Hid (T.length ≤ 1048576) := by show _ ≤ _; omega
 clear hwide hTl hall hs
 go_enter Tryz.func16, Tryz.ntmps16
 go_wp2_with fail
 refine htk.mono ?_
 clear htk
 rintro e1 w1 ⟨A0, c0, rfl, hrd, hd1⟩
 have hd2 : Below w1.heap.size w1 (w1.alloc (.cells #[.string ⟨s.toArray⟩, .slice A0 T.length c0, .int .i64 0, .int .i64 0, .bool false] 119)) := (Below.refl _ _).alloc (Nat.le_refl _) _
 have R : Rdq (w1.alloc (.cells #[.string ⟨s.toArray⟩, .slice A0 T.length c0, .int .i64 0, .int .i64 0, .bool false] 119)) (Old (w1.alloc (.cells #[.string ⟨s.toArray⟩, .slice A0 T.length c0, .int .i64 0, .int .i64 0, .bool false] 119))) w1.heap.size s T A0 c0 0 0 false := by
  refine ⟨Blk.new _ _ _, fun hn => ?_, by show _ < _; simp, Old.in_ _, Nat.zero_le _⟩
  obtain ⟨b, o, e, hb, hc⟩ := hrd.2 (by have := tksC_len T; omega)
  exact ⟨b, o, e, ⟨Nat.lt_of_lt_of_le hb hd2.size, by omega⟩, Nat.lt_of_lt_of_le hb hd2.size, fun j u hu => (World.cell?_of_block (a := ⟨b, o + j, none⟩) (hd2.block b hb)).trans (hc j u hu)⟩
 have hK0 : Below w.heap.size w (w1.alloc (.cells #[.string ⟨s.toArray⟩, .slice A0 T.length c0, .int .i64 0, .int .i64 0, .bool false] 119)) := hd1.trans (hd2.mono hd1.size)
 obtain ⟨g, hg⟩ : ∃ g, g = w1.heap.size := ⟨_, rfl⟩
 rw [← hg] at R
 go_upto_region 3 with fail
 rw [← hg]
 have HG : Hid (w.heap.size ≤ g) := by show _ ≤ _; rw [hg]; exact hd1.size
 clear hg hrd hd1 hd2
 generalize w1.alloc (.cells #[.string ⟨s.toArray⟩, .slice A0 T.length c0, .int .i64 0, .int .i64 0, .bool false] 119) = w2 at *
 have B : Bn (w2.alloc (.cells #[.int .i64 2, .int .i64 0, .string ⟨#[]⟩, .slice none 0 0, .int .i64 0, .int .i64 0, .int .i64 0, .int .i64 0, .bool false] 121)) (Old w2) w2.heap.size 2 [] := Bn.new (Old.in_ w2) 2
 have hd : Below w2.heap.size w2 (w2.alloc (.cells #[.int .i64 2, .int .i64 0, .string ⟨#[]⟩, .slice none 0 0, .int .i64 0, .int .i64 0, .int .i64 0, .int .i64 0, .bool false] 121)) := (Below.refl _ _).alloc (Nat.le_refl _) _
 have hA := Kept.aft (Kept.below hd (Old.in_ w2)) g
 have R := R.below hd
 clear hd
 obtain ⟨h, hh⟩ : ∃ h, h = w2.heap.size := ⟨_, rfl⟩
 rw [← hh] at B
 go_upto_region 4 with fail
 rw [← hh]
 clear hh
 generalize w2.alloc (.cells #[.int .i64 2, .int .i64 0, .string ⟨#[]⟩, .slice none 0 0, .int .i64 0, .int .i64 0, .int .i64 0, .int .i64 0, .bool false] 121) = w3 at *
 have hkd := rkindn_walk X R
 go_wp2_with fail
 refine hkd.mono ?_
 clear hkd
 rintro e1 w4 ⟨rfl, rfl⟩
 obtain ⟨all, hal⟩ : ∃ a, a = Tr.kidsP s T (T.length + 1) 0 := ⟨_, rfl⟩
 have HAll : Hid (Tr.allP s T = all.1.map (·.part) ++ Tr.tailP s T all.2) := by show _ = _; rw [hal]; rfl
 have Hal : Hid (Tr.kidsP s T (T.length + 1) 0 = all) := hal.symm
 clear hal
 go_wp2_with fail
 go_loopg [6, 7] (T.length) (fun m v u wr => ∃ (i : Nat) (ks : List Tr.PT) (cut : Bool), v = .int .i64 (Tr.kindP T (Tr.nextP T i) : Int) ∧ T.length - i ≤ m ∧ Aft (Old w2) g w2 wr ∧ Rdq wr (Old w2) g s T A0 c0 0 i cut ∧ Bn wr (Old w2) h 2 ks ∧ ks.length ≤ i ∧ Hid (ks ++ (Tr.kidsP s T (T.length + 1) i).1.map (·.part) = all.1.map (·.part)) ∧ Hid ((Tr.kidsP s T (T.length + 1) i).2 = all.2))
 case atStart => exact ⟨0, [], false, rfl, Nat.sub_le _ _, hA, R, B, Nat.le_refl _, by show _ = _; rw [Hal.out]; rfl, by show _ = _; rw [Hal.out]⟩
 case round =>
  clear hA R B Hal
  obtain ⟨i, ks, cut, rfl, hm, hA, R, B, hkl, Hk1, Hk2⟩ := hrel
  have hi := R.hi
  by_cases hnx : Tr.nextP T i < T.length
  ·have hne : ¬ Tr.kindP T (Tr.nextP T i) = 0 := fun e => (tr_kind0 X.good i).1 e hnx
   have e0 : ((Tr.kindP T (Tr.nextP T i) : Int) != 0) = true := by
    rw [bne, beq_eq_false_iff_ne.2 (by omega)]
    rfl
   have hit := ritem_walk X hW R.old hnx
   have hst := Tr.kids_step s T i hi hnx
   have hgt := Tr.kid_gt s T i hi hnx
   have hkp : (Tr.kdP s T i).part = (Tr.kidP s T i).1 := rfl
   rw [hst] at Hk1 Hk2
   have Hk1 : Hid ((ks ++ [(Tr.kidP s T i).1]) ++ (Tr.kidsP s T (T.length + 1) (Tr.kidP s T i).2).1.map (·.part) = all.1.map (·.part)) := by
    show _ = _
    rw [← Hk1.out, List.append_assoc]
    rfl
   have Hk2 : Hid ((Tr.kidsP s T (T.length + 1) (Tr.kidP s T i).2).2 = all.2) := Hk2
   have Hgt := Lib.hid hgt
   have hTl := HTl.out
   have Hkl : Hid (ks.length ≤ 1048576) := by show _ ≤ _; omega
   have Hkl2 := Lib.hid hkl
   have hk4 : ks.length ≤ 100000000 := by omega
   clear hst hgt hkp hne hnx hTl hkl
   generalize Tr.kindP T (Tr.nextP T i) = kd at *
   generalize Tr.kidP s T i = r at *
   go_wp2_with fail
   refine hit.mono ?_
   clear hit
   intro e1 w6 h6
   obtain ⟨hp0, rfl, hA6, R6, hu⟩ := h6
   obtain ⟨fps, A, c, vs, hb⟩ := B
   have hp := Rnew.of hu R.inK hb
   have hb := hb.aft hA6 R.kg (fun _ hx => hx)
   have hA6 := hA6.old R.inK
   have R := R.from_old R6 hA6
   have hA := hA.trans hA6
   clear hA6 R6 hu e0
   have o1 := hb.blk.cell 3
   simp [nodeC] at o1
   have hhl := hb.blk.lt
   go_upto_region 8 with (at_builtin; refine wpList_append_lies _ rfl _ _ 66 rfl 0 33 i0 _ 1 8 Tryz.underlying66 ji jz0 jz1 jz2 rfl (by omega) (.slice A ks.length c) ks.length vs rfl (hb.own.alloc (.cells #[.pointer (some ⟨hp0, 0, none⟩)] 33)) ⟨w6.heap.size, 0, none⟩ 1 1 [.pointer (some ⟨hp0, 0, none⟩)] rfl rfl (World.news_of_block (heap_alloc_new w6 _)) (by simp [Value.oneCell']) (by omega) (by unfold maxLen; omega) (by omega) (Nat.zero_le _) (w6.heap.size + 1) (by simp) ?_; intro gg cap' w5 hown5 hgrow hat hlt5; obtain ⟨b1, bf, hB, hk, R5⟩ := node_push R hb hp hown5 hgrow hat)
   have R := R5
   have hA := hA.trans (hk.aft g)
   clear R5 hk hp hb o1 hown5 hgrow hat hlt5 b1 bf
   generalize (World.setCell w5 ⟨h, 3, none⟩ (.slice (some ⟨gg, 0, none⟩) (ks.length + 1) cap')) = w7 at *
   have hkd := rkindn_walk X R
   go_wp2_with fail
   refine hkd.mono ?_
   clear hkd
   rintro e1 w8 ⟨rfl, rfl⟩
   go_wp2_with fail
   go_roundg (T.length - r.2)
   case rel => exact ⟨r.2, _, _, rfl, Nat.le_refl _, hA, R, hB, by have := Hgt.out; have := Hkl2.out; simp; omega, Hk1, Hk2⟩
   case measure => have := Hgt.out; have := R.hi; omega
  ·have hst := Tr.kids_stop s T i hnx
   rw [hst] at Hk1 Hk2
   have h2 : i = all.2 := Hk2.out
   have HF : Hid (Tr.allP s T = ks ++ leavesP s T 0 i T.length) := by
    show _ = _
    have h1 := Hk1.out
    simp only [List.map_nil, List.append_nil] at h1
    rw [HAll.out, ← h1, ← h2, tail_leaves s T i]
   have hk0 : Tr.kindP T (Tr.nextP T i) = 0 := (tr_kind0 X.good i).2 hnx
   have hTl := HTl.out
   have hk4 : ks.length ≤ 1048576 := by omega
   rw [hk0]
   clear hst Hk1 Hk2 HAll h2 hnx hm hkl hk0
   go_wp2_with fail
   go_loopg [8] (T.length - i) (fun q v wr => ∃ j, i ≤ j ∧ j ≤ T.length ∧ T.length - j ≤ q ∧ Aft (Old w2) g w2 wr ∧ Rdq wr (Old w2) g s T A0 c0 0 j cut ∧ Bn wr (Old w2) h 2 (ks ++ leavesP s T 0 i j))
   case atStart => exact ⟨i, Nat.le_refl _, hi, Nat.le_refl _, hA, R, by rw [leaves_self, List.append_nil]; exact B⟩
   case round =>
    clear hA R B
    obtain ⟨j, hij, hjt, hq, hA, R, hb⟩ := hrel
    obtain ⟨g0, g1, g2, _, _⟩ := R.cells
    have hrow := R.row
    by_cases hlt : j < T.length
    ·have hjT := hlt
     have j0 : (0 : Int) ≤ (j : Int) := by omega
     have j1 : (j : Int) < (T.length : Int) := by omega
     obtain ⟨br, o, rfl, hbr, hbl, q0, q1, q2⟩ := hrow.tk hjT
     have HL := Lib.hid (leaves_succ s T 0 i j hij hjT)
     have hll := leaves_len s T 0 i j
     obtain ⟨h1, h2, h3⟩ := X.good.at_ hjT
     have Hlf : Hid (Tr.leafP s 0 T[j] = .leaf T[j].1 (Tr.subT s T[j]) (T[j].2.1 - 0)) := rfl
     have Hsub := Lib.hid (sub_str s T[j])
     generalize T[j] = t at *
     obtain ⟨tk, ta, tl⟩ := t
     dsimp only at h1 h2 h3 q0 q1 q2 Hlf Hsub
     have hpl : (ks ++ leavesP s T 0 i j).length ≤ 60000000 := by rw [List.length_append]; omega
     have HL2 : Hid (ks ++ leavesP s T 0 i (j + 1) = (ks ++ leavesP s T 0 i j) ++ [.leaf tk (Tr.subT s (tk, ta, tl)) (ta - 0)]) := by
      show _ = _
      rw [HL.out, Hlf.out, List.append_assoc]
     clear HL Hlf hll hrow
     obtain ⟨fps, A, c, vs, hb⟩ := hb
     generalize ks ++ leavesP s T 0 i j = ps at *
     obtain ⟨bx, hbx⟩ : ∃ x, x = wr.heap.size := ⟨_, rfl⟩
     have hb0 := fun m => below_drewN (Below.refl wr.heap.size wr) m
     have hA0 := fun m => hA.trans (Kept.aft (Kept.below (hb0 m) R.inK) g)
     have R0 := fun m => R.below (hb0 m)
     have hbb0 := fun m => hb.below (hb0 m)
     have hs := X.hs
     obtain ⟨K, hKK⟩ : ∃ K, K = Old w2 := ⟨_, rfl⟩
     rw [← hKK] at hA0 R0 hbb0
     obtain ⟨b, hb00⟩ : ∃ b, b = 0 := ⟨_, rfl⟩
     rw [← hb00] at HL2
     clear hA R hb
     go_wp2_with fail
     go_quiet (fail)
     have hA := hA0 nq
     have R := R0 nq
     have hb := hbb0 nq
     rw [show wr.heap.size = (wr.drewN nq).heap.size from rfl] at hbx hbl
     have g1 : (wr.drewN nq).cell? ⟨g, 1, none⟩ = _ := g1
     have g2 : (wr.drewN nq).cell? ⟨g, 2, none⟩ = _ := g2
     have q0 : (wr.drewN nq).cell? ⟨br, o + j * 3, none⟩ = _ := q0
     have q1 : (wr.drewN nq).cell? ⟨br, o + j * 3 + 1, none⟩ = _ := q1
     have q2 : (wr.drewN nq).cell? ⟨br, o + j * 3 + 2, none⟩ = _ := q2
     clear hA0 R0 hbb0 hb0 g0
     generalize wr.drewN nq = w2 at *
     go_wp2_with fail
     refine wp_region_G 11 (fun w' : World => w'.cell? ⟨g, 1, none⟩ = some (.slice (some ⟨br, o, none⟩) T.length c0) ∧ w'.cell? ⟨g, 2, none⟩ = some (.int .i64 (j : Int)) ∧ w'.cell? ⟨br, o + j * 3, none⟩ = some (.int .i64 (tk : Int)) ∧ w'.cell? ⟨br, o + j * 3 + 1, none⟩ = some (.int .i64 (ta : Int)) ∧ w'.cell? ⟨br, o + j * 3 + 2, none⟩ = some (.int .i64 (tl : Int))) (by kernel_rfl) ?_
     have hgl := R.lt
     have hS0 : (fun w' : World => w'.cell? ⟨g, 1, none⟩ = some (.slice (some ⟨br, o, none⟩) T.length c0) ∧ w'.cell? ⟨g, 2, none⟩ = some (.int .i64 (j : Int)) ∧ w'.cell? ⟨br, o + j * 3, none⟩ = some (.int .i64 (tk : Int)) ∧ w'.cell? ⟨br, o + j * 3 + 1, none⟩ = some (.int .i64 (ta : Int)) ∧ w'.cell? ⟨br, o + j * 3 + 2, none⟩ = some (.int .i64 (tl : Int))) w2.drew := ⟨g1, g2, q0, q1, q2⟩
     refine wpAnyG_tk 0 hS0 ?_
     simp only [Act.put, List.setIfInBounds_toArray]
     refine wpAnyG_tk 1 hS0 ?_
     simp only [Act.put]
     refine wpAnyG_tk 2 hS0 ?_
     simp only [Act.put]
     refine wpAnyG_tk 3 hS0 ?_
     simp only [Act.put]
     refine wpAnyG_tk 4 hS0 ?_
     simp only [Act.put]
     refine wpAnyG_tk 5 hS0 ?_
     simp only [Act.put]
     refine wpAnyG_tk 6 hS0 ?_
     simp only [Act.put]
     refine wpAnyG_tk 7 hS0 ?_
     simp only [Act.put]
     refine wpAnyG_tk 8 hS0 ?_
     simp only [Act.put]
     refine wpAnyG_tk 9 hS0 ?_
     simp only [Act.put]
     clear hS0
     refine wpAnyG_on 10 fun C hC => ?_
     go_simp
     refine hC.out _ _ (fun _ => ⟨(cell_alloc _ _ _ _ hgl).trans g1, (cell_alloc _ _ _ _ hgl).trans g2, (cell_alloc _ _ _ _ hbl).trans q0, (cell_alloc _ _ _ _ hbl).trans q1, (cell_alloc _ _ _ _ hbl).trans q2⟩) ?_
     clear hC C
     refine wpAnyG_on 11 fun C hC => ?_
     go_simp
     refine hC.out _ _ (fun h => absurd rfl h) ?_
     clear hC C
     refine wpAnyG_done (by kernel_rfl) ?_ _
     have hd : Below w2.heap.size w2 ((w2.alloc (.cells #[.int .i64 (tk : Int), .int .i64 (ta : Int), .int .i64 (tl : Int)] 124)).drew) := ((Below.refl _ _).alloc (Nat.le_refl _) _).drew
     have hA := hA.trans (Kept.aft (Kept.below hd R.inK) g)
     have R := R.below hd
     have hb := hb.below hd
     have hBx : Blk ((w2.alloc (.cells #[.int .i64 (tk : Int), .int .i64 (ta : Int), .int .i64 (tl : Int)] 124)).drew) bx 124 #[.int .i64 (tk : Int), .int .i64 (ta : Int), .int .i64 (tl : Int)] := by rw [hbx]; exact (Blk.new _ _ _).drew
     rw [← hbx]
     clear hbx hd g1 g2 q0 q1 q2 hbl hbr hgl
     generalize (w2.alloc (.cells #[.int .i64 (tk : Int), .int .i64 (ta : Int), .int .i64 (tl : Int)] 124)).drew = w2 at *
     go_wp2_with fail
     refine wp_region_G 22 (fun w' : World => w'.cell? ⟨h, 3, none⟩ = some (.slice A ps.length c) ∧ w'.cell? ⟨bx, 0, none⟩ = some (.int .i64 (tk : Int)) ∧ w'.cell? ⟨bx, 1, none⟩ = some (.int .i64 (ta : Int)) ∧ w'.cell? ⟨bx, 2, none⟩ = some (.int .i64 (tl : Int))) (by kernel_rfl) ?_
     have hd : Below w2.heap.size w2 w2.drew := (Below.refl _ _).drew
     have hA := hA.trans (Kept.aft (Kept.below hd R.inK) g)
     have R := R.below hd
     have hb := hb.below hd
     have hBx := hBx.drew
     clear hd
     generalize w2.drew = w3 at *
     have o1 := hb.blk.cell 3
     have b0 := hBx.cell 0
     have b1 := hBx.cell 1
     have b2 := hBx.cell 2
     simp [nodeC] at o1 b0 b1 b2
     have hS0 : (fun w' : World => w'.cell? ⟨h, 3, none⟩ = some (.slice A ps.length c) ∧ w'.cell? ⟨bx, 0, none⟩ = some (.int .i64 (tk : Int)) ∧ w'.cell? ⟨bx, 1, none⟩ = some (.int .i64 (ta : Int)) ∧ w'.cell? ⟨bx, 2, none⟩ = some (.int .i64 (tl : Int))) w3 := ⟨o1, b0, b1, b2⟩
     have a0 : IntKind.i64.wrap ((ta : Int) + tl) = (ta : Int) + tl := IntWalk.i64_in _ (by omega)
     have a1 : (0 : Int) ≤ (ta : Int) + tl := by omega
     have a2 : ((ta : Int) + tl).toNat = ta + tl := by omega
     have a3 : (ta : Int) + tl ≤ (s.length : Int) := by omega
     have a4 : (ta : Int) ≤ (ta : Int) + tl := by omega
     have a5 : ta ≤ ta + tl := by omega
     have a6 : ta + tl ≤ s.length := h1
     refine wpAnyG_tk 0 hS0 ?_
     simp only [Act.put, List.setIfInBounds_toArray]
     refine wpAnyG_tk 1 hS0 ?_
     simp only [Act.put]
     refine wpAnyG_tk 2 hS0 ?_
     simp only [Act.put]
     refine wpAnyG_tk 3 hS0 ?_
     simp only [Act.put]
     refine wpAnyG_tk 4 hS0 ?_
     simp only [Act.put]
     refine wpAnyG_tk 5 hS0 ?_
     simp only [Act.put]
     refine wpAnyG_tk 6 hS0 ?_
     simp only [Act.put]
     refine wpAnyG_tk 7 hS0 ?_
     simp only [Act.put]
     refine wpAnyG_tk 8 hS0 ?_
     simp only [Act.put]
     refine wpAnyG_tk 9 hS0 ?_
     simp only [Act.put]
     refine wpAnyG_tk 10 hS0 ?_
     simp only [Act.put]
     refine wpAnyG_tk 11 hS0 ?_
     simp only [Act.put]
     refine wpAnyG_tk 12 hS0 ?_
     simp only [Act.put]
     refine wpAnyG_tk 13 hS0 ?_
     simp only [Act.put]
     refine wpAnyG_tk 14 hS0 ?_
     simp only [Act.put]
     refine wpAnyG_tk 15 hS0 ?_
     simp only [Act.put]
     refine wpAnyG_tk 16 hS0 ?_
     simp only [Act.put]
     clear hS0
     have hd : Below w3.heap.size w3 (w3.alloc (.cells #[.int .i64 0, .int .i64 (tk : Int), .string ((⟨s.toArray⟩ : ByteArray).extract ta (ta + tl)), .slice none 0 0, .int .i64 0, .int .i64 0, .int .i64 0, .int .i64 0, .bool false] 121)) := (Below.refl _ _).alloc (Nat.le_refl _) _
     have hBg : Blk (w3.alloc (.cells #[.int .i64 0, .int .i64 (tk : Int), .string ((⟨s.toArray⟩ : ByteArray).extract ta (ta + tl)), .slice none 0 0, .int .i64 0, .int .i64 0, .int .i64 0, .int .i64 0, .bool false] 121)) w3.heap.size 121 #[.int .i64 0, .int .i64 (tk : Int), .string ((⟨s.toArray⟩ : ByteArray).extract ta (ta + tl)), .slice none 0 0, .int .i64 0, .int .i64 0, .int .i64 0, .int .i64 0, .bool false] := Blk.new _ _ _
     have hA := hA.trans (Kept.aft (Kept.below hd R.inK) g)
     have hp : RnF (w3.alloc (.cells #[.int .i64 0, .int .i64 (tk : Int), .string ((⟨s.toArray⟩ : ByteArray).extract ta (ta + tl)), .slice none 0 0, .int .i64 0, .int .i64 0, .int .i64 0, .int .i64 0, .bool false] 121)) (fun x => ¬ K x ∧ x ≠ h ∧ some x ≠ (Value.slice A ps.length c).ownBlock) (.leaf tk (Tr.subT s (tk, ta, tl)) (ta - b)) [w3.heap.size] (.pointer (some ⟨w3.heap.size, 0, none⟩)) :=
      ⟨w3.heap.size, rfl, rfl, ⟨fun hk => Nat.lt_irrefl _ (R.inK _ hk), fun e => by have := hb.blk.lt; omega, fun e => by have := hb.row_lt _ e.symm; omega⟩, by unfold nodeC; rw [← show Value.string ((⟨s.toArray⟩ : ByteArray).extract ta (ta + tl)) = .string ⟨(Tr.subT s (tk, ta, tl)).toArray⟩ from Hsub.out]; exact hBg⟩
     have hdj : ∀ x ∈ [w3.heap.size], x ∉ fps := fun x hx hf => by
      simp only [List.mem_singleton] at hx
      subst hx
      exact Nat.lt_irrefl _ (RnsF.fp _ _ _ hb.parts _ hf).2
     have hbx3 := hBx.lt
     have hgl := R.lt
     refine wpAnyG_on 17 fun C hC => ?_
     go_simp
     have c0' := (cell_alloc w3 (.cells #[.int .i64 0, .int .i64 (tk : Int), .string ((⟨s.toArray⟩ : ByteArray).extract ta (ta + tl)), .slice none 0 0, .int .i64 0, .int .i64 0, .int .i64 0, .int .i64 0, .bool false] 121) bx 0 hbx3).trans b0
     have c1 := (cell_alloc w3 (.cells #[.int .i64 0, .int .i64 (tk : Int), .string ((⟨s.toArray⟩ : ByteArray).extract ta (ta + tl)), .slice none 0 0, .int .i64 0, .int .i64 0, .int .i64 0, .int .i64 0, .bool false] 121) bx 1 hbx3).trans b1
     have c2 := (cell_alloc w3 (.cells #[.int .i64 0, .int .i64 (tk : Int), .string ((⟨s.toArray⟩ : ByteArray).extract ta (ta + tl)), .slice none 0 0, .int .i64 0, .int .i64 0, .int .i64 0, .int .i64 0, .bool false] 121) bx 2 hbx3).trans b2
     have hBx := hBx.alloc (.cells #[.int .i64 0, .int .i64 (tk : Int), .string ((⟨s.toArray⟩ : ByteArray).extract ta (ta + tl)), .slice none 0 0, .int .i64 0, .int .i64 0, .int .i64 0, .int .i64 0, .bool false] 121)
     have R := R.below hd
     have hb := hb.below hd
     have o1 : (w3.alloc (.cells #[.int .i64 0, .int .i64 (tk : Int), .string ((⟨s.toArray⟩ : ByteArray).extract ta (ta + tl)), .slice none 0 0, .int .i64 0, .int .i64 0, .int .i64 0, .int .i64 0, .bool false] 121)).cell? ⟨h, 3, none⟩ = some (.slice A ps.length c) := by
      have := hb.blk.cell 3
      simpa [nodeC] using this
     refine hC.out _ _ (fun _ => ⟨o1, c0', c1, c2⟩) ?_
     clear hC C hd hBg b0 b1 b2
     obtain ⟨q, hq⟩ : ∃ q, q = w3.heap.size := ⟨_, rfl⟩
     rw [← hq] at hp hdj ⊢
     clear hq
     generalize (w3.alloc (.cells #[.int .i64 0, .int .i64 (tk : Int), .string ((⟨s.toArray⟩ : ByteArray).extract ta (ta + tl)), .slice none 0 0, .int .i64 0, .int .i64 0, .int .i64 0, .int .i64 0, .bool false] 121)) = w6 at *
     refine wpAnyG_on 18 fun C hC => ?_
     go_simp
     refine hC.out _ _ (fun _ => ⟨(cell_alloc _ _ _ _ hb.blk.lt).trans o1, (cell_alloc _ _ _ _ hBx.lt).trans c0', (cell_alloc _ _ _ _ hBx.lt).trans c1, (cell_alloc _ _ _ _ hBx.lt).trans c2⟩) ?_
     clear hC C
     refine wpAnyG_on 19 fun C hC => ?_
     refine step_append_lies _ (by rfl) _ _ _ (by rfl) 0 33 i0 _ 1 8 Tryz.underlying66 ji jz0 jz1 jz2 rfl (by omega) (.slice A ps.length c) ps.length vs (by rfl) (hb.own.alloc (.cells #[.pointer (some ⟨q, 0, none⟩)] 33)) ⟨w6.heap.size, 0, none⟩ 1 1 [.pointer (some ⟨q, 0, none⟩)] (by rfl) (by rfl) (World.news_of_block (heap_alloc_new w6 _)) (by simp [Value.oneCell']) (by omega) (by unfold maxLen; omega) (by omega) (Nat.zero_le _) (w6.heap.size + 1) (by simp) ?_
     intro gg cap' w5 hown5 hgrow hat hlt5
     have hpu := hb.push R.inK hp (by simp) hdj hown5 hgrow hat
     have hg5 := (hb.blk.alloc (.cells #[.pointer (some ⟨q, 0, none⟩)] 33)).grown hgrow hb.row_ne
     have b1 := hg5.cell 3
     have bf := hg5.frozen 3
     simp [nodeC] at b1
     have hx5 := (hBx.alloc (.cells #[.pointer (some ⟨q, 0, none⟩)] 33)).grown hgrow (own_ne hb.own hBx (by decide))
     have e0 := hx5.cell 0
     have e1 := hx5.cell 1
     have e2 := hx5.cell 2
     simp at e0 e1 e2
     refine hC.out _ _ (fun _ => ⟨b1, e0, e1, e2⟩) ?_
     clear hC C
     refine wpAnyG_on 20 fun C hC => ?_
     go_simp
     refine hC.out _ _ (fun _ => ⟨b1, e0, e1, e2⟩) ?_
     clear hC C
     refine wpAnyG_on 21 fun C hC => ?_
     go_simp
     refine hC.out _ _ (fun _ => ⟨b1, e0, e1, e2⟩) ?_
     clear hC C
     refine wpAnyG_on 22 fun C hC => ?_
     go_simp
     refine hC.out _ _ (fun h => absurd rfl h) ?_
     clear hC C
     refine wpAnyG_done (by kernel_rfl) ?_ _
     have hB := hpu.1
     have R := R.kept hpu.2
     have hA := hA.trans (hpu.2.aft g)
     clear hb hp hdj o1 hown5 hgrow hat hlt5 hpu hg5 b1 bf c0' c1 c2 hbx3 hgl hBx hx5 e0 e1 e2 a0 a1 a2 a3 a4 a5 a6 Hsub
     generalize (World.setCell w5 ⟨h, 3, none⟩ (.slice (some ⟨gg, 0, none⟩) (ps.length + 1) cap')) = w7 at *
     obtain ⟨_, _, g2, _, _⟩ := R.cells
     have gf := R.rd.frozen 2
     go_wp2_with fail
     go_roundg (T.length - (j + 1))
     case rel =>
      have hR := R.at_ (j := j + 1) (by omega)
      have hBs := hB.aft ((Aft.refl (Old w7) g w7).set 2 (.int .i64 ((j + 1 : Nat) : Int))) R.kg
      rw [← HL2.out, show ((j + 1 : Nat) : Int) = (j : Int) + 1 by omega] at hBs
      have hA2 := hA.set 2 (.int .i64 ((j : Int) + 1))
      rw [show ((j + 1 : Nat) : Int) = (j : Int) + 1 by omega] at hR
      rw [hKK] at hA2 hR hBs
      rw [hb00] at hBs
      exact ⟨j + 1, by omega, by omega, Nat.le_refl _, hA2, hR, hBs⟩
     case measure => omega
    ·obtain rfl : j = T.length := by omega
     have j1 : ¬ (T.length : Int) < (T.length : Int) := by omega
     have j3 : decide (T.length < T.length) = false := by simp
     have hb0 := fun m => below_drewN (Below.refl wr.heap.size wr) m
     rw [← HF.out] at hb
     clear HF hlt hq hrow
     go_wp2_with fail
     go_quiet (fail)
     have hA := hA.trans (Kept.aft (Kept.below (hb0 nq) R.inK) g)
     have hb := hb.below (hb0 nq)
     have R := R.below (hb0 nq)
     clear hb0 g0 g1 g2
     generalize wr.drewN nq = w9 at *
     obtain ⟨fp, hp, hn⟩ := hb.whole 0
     have hpt := hput w9 _ fp _ 0 hp hn (by have := HW.out; omega)
     have hff := RnF.fp _ _ _ hp
     go_wp2_with fail
     refine hpt.mono ?_
     clear hpt
     rintro e1 w10 ⟨rfl, hTu, hNp⟩
     go_wp2_with fail
     go_ret
     have hw2 := hK0.size
     have hcm := (hA.calm.trans hTu.calm)
     refine ⟨h, fp, rfl, NpF.weak (fun x hx => ?_) _ _ _ _ hNp, hn, hcm.os.trans hK0.os, hcm.tape.trans hK0.tape, hcm.output.trans hK0.output, ?_, fun x hx => ?_⟩
     ·have hx : ¬ x < w2.heap.size := hx
      omega
     ·rw [hTu.size]; have := hA.size; omega
     ·have hx2 : x < w2.heap.size := by omega
      have hg := HG.out
      rw [hTu.oth x (fun hm => (hff x hm).1 hx2), hA.oth x hx2 (by omega), hK0.block x hx]
end Go.Proofs.YtalklmeejdmifaaGreatDoor
