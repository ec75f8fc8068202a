/-
  JOINED of the texts DL DM UA
-/
import Derived.Test.YtalklmeejdmifaaGreatDoorJap
import Derived.Deep.AppendLies
import Derived.Deep.QuietTactic
import Derived.BigQuiet
import Derived.Lib.RuneBytes
import Derived.Lib.Strings
import Derived.Deep.DeepCutAuto
import Derived.Lib.ConvBytes
import Derived.Laws.Strings3
import Derived.Laws.Closers25
import Derived.Laws.Closers25b
import Derived.BigCall
import Derived.BigGuard
import Derived.Test.YtalklmeejdmifaaGreatDoorShelfX
import Derived.Shelf.Spec.BytesIndexFunc
import Derived.Deep.RegionHeld3
import Derived.Lib.IndexMore
import Derived.Test.YtalklmeejdmifaaGreatDoorRows
import Derived.WalkKit
import Derived.WalkSpells
import Derived.WalkLawsBesides
import Derived.Below
import Derived.Laws.OwnMore
import Derived.Deep.Draws
import Derived.Lib.Hide
import Derived.IntWalk
import Derived.Test.YtalklmeejdmifaaGreatDoorShelfW
import Derived.Shelf.Strings.SlTrimAscii
import Derived.Lib.LaidTab
import Derived.Lib.AtoiAll
import Derived.Lib.IndexLaws
import Derived.Lib.SlTrimSet
import Derived.Lib.ItoaNum
import Derived.Lib.Atoi
import Derived.WalkMore
import Derived.ScopeJumps
import Derived.Test.YtalklmeejdmifaaGreatDoorJae
/-
  WALKS of the document's reader: Put.
-/
namespace Go.Proofs.YtalklmeejdmifaaGreatDoor
open Go.RowKit

section
variable {w : World} {g k tok : Nat} {t : Bs} {A : Option Addr} {m c : Nat} {a e f u : Int} {b : Bool}
theorem gen_cells (h : Blk w g 121 (genC k tok t A m c a e f u b)) :
    w.cell? ⟨g, 0, none⟩ = some (.int .i64 (k : Int)) ∧ w.cell? ⟨g, 1, none⟩ = some (.int .i64 (tok : Int)) ∧ w.cell? ⟨g, 2, none⟩ = some (.string ⟨t.toArray⟩) ∧ w.cell? ⟨g, 3, none⟩ = some (.slice A m c) ∧ w.cell? ⟨g, 4, none⟩ = some (.int .i64 a) ∧ w.cell? ⟨g, 5, none⟩ = some (.int .i64 e) ∧ w.cell? ⟨g, 6, none⟩ = some (.int .i64 f) ∧ w.cell? ⟨g, 7, none⟩ = some (.int .i64 u) ∧ w.cell? ⟨g, 8, none⟩ = some (.bool b) := by
  refine ⟨h.cell 0, h.cell 1, h.cell 2, h.cell 3, h.cell 4, h.cell 5, h.cell 6, h.cell 7, h.cell 8⟩
end
theorem Turn.trans' {X : List Nat} {w w1 w' : World} (h : Turn X w w1) (h' : Turn X w1 w') : Turn X w w' := h.trans h'
/-- what Put does to a leaf or a gap, and before it comes to a branch's kids -/
def PutE (w : World) (g : Nat) (cs : Array Value) (n : Nat) (e : Ending) (w' : World) : Prop :=
  e = .returned (.int .i64 (n : Int)) ∧ Turn [g] w w' ∧ Blk w' g 121 cs
set_option maxHeartbeats 8000000 in
set_option maxRecDepth 100000 in
theorem put_leaf {w0 : World} {g tok x : Nat} {t : Bs} (hB : Blk w0 g 121 (genC 0 tok t none 0 0 0 0 0 0 false)) (a : Nat) (ha : a + t.length ≤ 1000000000000) :
    Calls Tryz.prog 53 #[.pointer (some ⟨g, 0, none⟩), .int .i64 (a : Int)] w0 (PutE w0 g (putC 0 tok t none 0 0 a (Tr.putP (.leaf tok t x) a)) (a + t.length)) := by
  have hT : Turn [g] w0 w0 := ⟨rfl, fun _ _ => rfl, fun y hy => by simp only [List.mem_singleton] at hy; subst hy; exact ⟨_, _, _, _, _, _, _, _, _, _, _, hB⟩, Calm.refl _⟩
  have a0 : IntKind.i64.wrap ((a : Int) + t.length) = (a : Int) + t.length := IntWalk.i64_in _ (by omega)
  have Ha : Hid (((a + t.length : Nat) : Int) = (a : Int) + t.length) := by show _ = _; omega
  have HP1 : Hid (tok = 1 ∨ tok = 2 → Tr.putP (.leaf tok t x) a = ⟨a + t.length, -1, -1, false⟩) := fun h => by unfold Tr.putP; rw [if_pos h]
  have HP0 : Hid (¬ (tok = 1 ∨ tok = 2) → Tr.putP (.leaf tok t x) a = ⟨a + t.length, (a : Int), ((a + t.length : Nat) : Int), false⟩) := fun h => by unfold Tr.putP; rw [if_neg h]
  generalize Tr.putP (.leaf tok t x) a = pl at *
  clear ha
  go_enter Tryz.func53, Tryz.ntmps53
  obtain ⟨z0, z1, z2, z3, z4, z5, z6, z7, z8⟩ := gen_cells hB
  have y4 := hB.frozen 4
  have y5 := hB.frozen 5
  have y6 := hB.frozen 6
  have y7 := hB.frozen 7
  have y8 := hB.frozen 8
  go_upto_region 2 with fail
  have hT := hT.trans (gen_turn hB 4 (.int .i64 (a : Int)))
  have hB := (gen_set hB).1 (a : Int)
  clear z0 z1 z2 z3 z4 z5 z6 z7 z8 y4 y5 y6 y7 y8
  generalize w0.setCell ⟨g, 4, none⟩ (.int .i64 (a : Int)) = w2 at *
  obtain ⟨z0, z1, z2, z3, z4, z5, z6, z7, z8⟩ := gen_cells hB
  have y4 := hB.frozen 4
  have y5 := hB.frozen 5
  have y6 := hB.frozen 6
  have y7 := hB.frozen 7
  have y8 := hB.frozen 8
  go_upto_region 3 with fail
  have hT := hT.trans (gen_turn hB 6 (.int .i64 (-1)))
  have hB := (gen_set hB).2.2.1 (-1)
  clear z0 z1 z2 z3 z4 z5 z6 z7 z8 y4 y5 y6 y7 y8
  generalize w2.setCell ⟨g, 6, none⟩ (.int .i64 (-1)) = w3 at *
  obtain ⟨z0, z1, z2, z3, z4, z5, z6, z7, z8⟩ := gen_cells hB
  have y4 := hB.frozen 4
  have y5 := hB.frozen 5
  have y6 := hB.frozen 6
  have y7 := hB.frozen 7
  have y8 := hB.frozen 8
  go_upto_region 4 with fail
  have hT := hT.trans (gen_turn hB 7 (.int .i64 (-1)))
  have hB := (gen_set hB).2.2.2.1 (-1)
  clear z0 z1 z2 z3 z4 z5 z6 z7 z8 y4 y5 y6 y7 y8
  generalize w3.setCell ⟨g, 7, none⟩ (.int .i64 (-1)) = w4 at *
  obtain ⟨z0, z1, z2, z3, z4, z5, z6, z7, z8⟩ := gen_cells hB
  have y4 := hB.frozen 4
  have y5 := hB.frozen 5
  have y6 := hB.frozen 6
  have y7 := hB.frozen 7
  have y8 := hB.frozen 8
  go_upto_region 6 with fail
  have hT := hT.trans (gen_turn hB 5 (.int .i64 ((a : Int) + t.length)))
  have hB := (gen_set hB).2.1 ((a : Int) + t.length)
  clear z0 z1 z2 z3 z4 z5 z6 z7 z8 y4 y5 y6 y7 y8
  generalize w4.setCell ⟨g, 5, none⟩ (.int .i64 ((a : Int) + t.length)) = w5 at *
  obtain ⟨z0, z1, z2, z3, z4, z5, z6, z7, z8⟩ := gen_cells hB
  have y4 := hB.frozen 4
  have y5 := hB.frozen 5
  have y6 := hB.frozen 6
  have y7 := hB.frozen 7
  have y8 := hB.frozen 8
  by_cases k1 : tok = 1
  · have HV := Lib.hid (HP1.out (.inl k1))
    subst k1
    clear HP1 HP0
    go_wp2_with fail
    go_ret
    exact ⟨by rw [Ha.out]; rfl, hT, by rw [HV.out]; unfold putC; dsimp only; rw [Ha.out]; exact hB⟩
  · have e1 : ((tok : Int) == 1) = false := by simp; omega
    have n1 : ((tok : Int) != 1) = true := by rw [bne, e1]; rfl
    by_cases k2 : tok = 2
    · have HV := Lib.hid (HP1.out (.inr k2))
      subst k2
      clear HP1 HP0 k1
      go_wp2_with fail
      go_ret
      exact ⟨by rw [Ha.out]; rfl, hT, by rw [HV.out]; unfold putC; dsimp only; rw [Ha.out]; exact hB⟩
    · have e2 : ((tok : Int) == 2) = false := by simp; omega
      have n2 : ((tok : Int) != 2) = true := by rw [bne, e2]; rfl
      have HV := Lib.hid (HP0.out (fun h => h.elim k1 k2))
      clear HP1 HP0 k1 k2
      go_upto_region 7 with fail
      clear z0 z1 z2 z3 z4 z5 z6 z7 z8 y4 y5 y6 y7 y8
      obtain ⟨z0, z1, z2, z3, z4, z5, z6, z7, z8⟩ := gen_cells hB
      have y4 := hB.frozen 4
      have y5 := hB.frozen 5
      have y6 := hB.frozen 6
      have y7 := hB.frozen 7
      have y8 := hB.frozen 8
      go_upto_region 8 with fail
      have hT := hT.trans (gen_turn hB 6 (.int .i64 (a : Int)))
      have hB := (gen_set hB).2.2.1 (a : Int)
      clear z0 z1 z2 z3 z4 z5 z6 z7 z8 y4 y5 y6 y7 y8
      generalize w5.setCell ⟨g, 6, none⟩ (.int .i64 (a : Int)) = w6 at *
      obtain ⟨z0, z1, z2, z3, z4, z5, z6, z7, z8⟩ := gen_cells hB
      have y4 := hB.frozen 4
      have y5 := hB.frozen 5
      have y6 := hB.frozen 6
      have y7 := hB.frozen 7
      have y8 := hB.frozen 8
      go_upto_region 9 with fail
      have hT := hT.trans (gen_turn hB 7 (.int .i64 ((a : Int) + t.length)))
      have hB := (gen_set hB).2.2.2.1 ((a : Int) + t.length)
      clear z0 z1 z2 z3 z4 z5 z6 z7 z8 y4 y5 y6 y7 y8
      generalize w6.setCell ⟨g, 7, none⟩ (.int .i64 ((a : Int) + t.length)) = w7 at *
      obtain ⟨z0, z1, z2, z3, z4, z5, z6, z7, z8⟩ := gen_cells hB
      have y4 := hB.frozen 4
      have y5 := hB.frozen 5
      have y6 := hB.frozen 6
      have y7 := hB.frozen 7
      have y8 := hB.frozen 8
      go_wp2_with fail
      go_ret
      exact ⟨by rw [Ha.out]; rfl, hT, by rw [HV.out]; unfold putC; dsimp only; rw [Ha.out]; exact hB⟩

set_option maxHeartbeats 8000000 in
set_option maxRecDepth 100000 in
theorem put_gap {w0 : World} {g x : Nat} {t : Bs} {d : Bool} (hB : Blk w0 g 121 (genC 1 0 t none 0 0 0 0 0 0 false)) (a : Nat) :
    Calls Tryz.prog 53 #[.pointer (some ⟨g, 0, none⟩), .int .i64 (a : Int)] w0 (PutE w0 g (putC 1 0 t none 0 0 a (Tr.putP (.gap t x d) a)) a) := by
  have hT : Turn [g] w0 w0 := ⟨rfl, fun _ _ => rfl, fun y hy => by simp only [List.mem_singleton] at hy; subst hy; exact ⟨_, _, _, _, _, _, _, _, _, _, _, hB⟩, Calm.refl _⟩
  have HV : Hid (Tr.putP (.gap t x d) a = ⟨a, -1, -1, true⟩) := by show _ = _; unfold Tr.putP; rfl
  generalize Tr.putP (.gap t x d) a = pl at *
  go_enter Tryz.func53, Tryz.ntmps53
  obtain ⟨z0, z1, z2, z3, z4, z5, z6, z7, z8⟩ := gen_cells hB
  have y4 := hB.frozen 4
  have y5 := hB.frozen 5
  have y6 := hB.frozen 6
  have y7 := hB.frozen 7
  have y8 := hB.frozen 8
  go_upto_region 2 with fail
  have hT := hT.trans (gen_turn hB 4 (.int .i64 (a : Int)))
  have hB := (gen_set hB).1 (a : Int)
  clear z0 z1 z2 z3 z4 z5 z6 z7 z8 y4 y5 y6 y7 y8
  generalize w0.setCell ⟨g, 4, none⟩ (.int .i64 (a : Int)) = w2 at *
  obtain ⟨z0, z1, z2, z3, z4, z5, z6, z7, z8⟩ := gen_cells hB
  have y4 := hB.frozen 4
  have y5 := hB.frozen 5
  have y6 := hB.frozen 6
  have y7 := hB.frozen 7
  have y8 := hB.frozen 8
  go_upto_region 3 with fail
  have hT := hT.trans (gen_turn hB 6 (.int .i64 (-1)))
  have hB := (gen_set hB).2.2.1 (-1)
  clear z0 z1 z2 z3 z4 z5 z6 z7 z8 y4 y5 y6 y7 y8
  generalize w2.setCell ⟨g, 6, none⟩ (.int .i64 (-1)) = w3 at *
  obtain ⟨z0, z1, z2, z3, z4, z5, z6, z7, z8⟩ := gen_cells hB
  have y4 := hB.frozen 4
  have y5 := hB.frozen 5
  have y6 := hB.frozen 6
  have y7 := hB.frozen 7
  have y8 := hB.frozen 8
  go_upto_region 4 with fail
  have hT := hT.trans (gen_turn hB 7 (.int .i64 (-1)))
  have hB := (gen_set hB).2.2.2.1 (-1)
  clear z0 z1 z2 z3 z4 z5 z6 z7 z8 y4 y5 y6 y7 y8
  generalize w3.setCell ⟨g, 7, none⟩ (.int .i64 (-1)) = w4 at *
  obtain ⟨z0, z1, z2, z3, z4, z5, z6, z7, z8⟩ := gen_cells hB
  have y4 := hB.frozen 4
  have y5 := hB.frozen 5
  have y6 := hB.frozen 6
  have y7 := hB.frozen 7
  have y8 := hB.frozen 8
  go_upto_region 11 with fail
  have hT := hT.trans (gen_turn hB 8 (.bool true))
  have hB := (gen_set hB).2.2.2.2 true
  clear z0 z1 z2 z3 z4 z5 z6 z7 z8 y4 y5 y6 y7 y8
  generalize w4.setCell ⟨g, 8, none⟩ (.bool true) = w5 at *
  obtain ⟨z0, z1, z2, z3, z4, z5, z6, z7, z8⟩ := gen_cells hB
  have y4 := hB.frozen 4
  have y5 := hB.frozen 5
  have y6 := hB.frozen 6
  have y7 := hB.frozen 7
  have y8 := hB.frozen 8
  go_wp2_with fail
  clear z0 z1 z2 z3 z4 z5 z6 z7 z8 y4 y5 y6 y7 y8
  go_loopg [1, 5] 0 (fun q v u wr => v = .int .i64 (a : Int) ∧ u = .int .i64 0 ∧ Turn [g] w0 wr ∧ Blk wr g 121 (genC 1 0 t none 0 0 (a : Int) 0 (-1) (-1) true))
  case atStart => exact ⟨rfl, rfl, hT, hB⟩
  case round =>
    clear hT hB
    obtain ⟨rfl, rfl, hT, hB⟩ := hrel
    obtain ⟨z0, z1, z2, z3, z4, z5, z6, z7, z8⟩ := gen_cells hB
    have y4 := hB.frozen 4
    have y5 := hB.frozen 5
    have y6 := hB.frozen 6
    have y7 := hB.frozen 7
    have y8 := hB.frozen 8
    go_upto_region 23 with fail
    have hT := hT.trans (gen_turn hB 5 (.int .i64 (a : Int)))
    have hB := (gen_set hB).2.1 (a : Int)
    clear z0 z1 z2 z3 z4 z5 z6 z7 z8 y4 y5 y6 y7 y8
    generalize wr.setCell ⟨g, 5, none⟩ (.int .i64 (a : Int)) = w6 at *
    go_wp2_with fail
    go_ret
    exact ⟨rfl, hT, by rw [HV.out]; exact hB⟩

end Go.Proofs.YtalklmeejdmifaaGreatDoor
/-
  WALKS of the document's reader: Put, whole.
-/
namespace Go.Proofs.YtalklmeejdmifaaGreatDoor
open Go.RowKit

/-- what Put makes of a part -/
def PutC (p : Tr.PT) : Prop := ∀ (w : World) (F : Nat → Prop) (fp : List Nat) (v : Value) (a : Nat), RnF w F p fp v → fp.Nodup → a + Tr.wideP p ≤ 1000000000000 →
  Calls Tryz.prog 53 #[v, .int .i64 (a : Int)] w fun e w' => e = .returned (.int .i64 ((Tr.putP p a).end_ : Int)) ∧ Turn fp w w' ∧ NpF w' F p a fp v
theorem Turn.of_mem {X Y : List Nat} {w w' w1 : World} (h : Turn Y w w1) (h' : Turn X w1 w') (hX : ∀ x ∈ X, x ∈ Y) : Turn Y w w' := ⟨h'.size.trans h.size, fun x hx => (h'.oth x fun hm => hx (hX x hm)).trans (h.oth x hx), h.nodes, h.calm.trans h'.calm⟩
theorem Turn.drewN {X : List Nat} {w w' : World} (h : Turn X w w') (n : Nat) : Turn X w (w'.drewN n) := ⟨h.size, h.oth, h.nodes, h.calm.os, h.calm.tape, h.calm.output⟩
theorem Turn.cell {X : List Nat} {w w' : World} (h : Turn X w w') {q i : Nat} {v : Value} (hq : q ∉ X) (hc : w.cell? ⟨q, i, none⟩ = some v) : w'.cell? ⟨q, i, none⟩ = some v := (World.cell?_of_block (a := ⟨q, i, none⟩) (h.oth q hq)).trans hc
theorem wides_get : ∀ (l1 : List Tr.PT) (p : Tr.PT) (l2 : List Tr.PT), Tr.widesP l1 + Tr.wideP p ≤ Tr.widesP (l1 ++ p :: l2)
  | [], p, l2 => by simp only [List.nil_append, Tr.widesP]; omega
  | q :: l1, p, l2 => by
    have := wides_get l1 p l2
    simp only [List.cons_append, Tr.widesP]
    omega
set_option maxHeartbeats 16000000 in
set_option maxRecDepth 100000 in
theorem put_branch {k x : Nat} {l : List Tr.PT} (hk : 2 ≤ k) (hlen : l.length ≤ 1000000000) (IH : ∀ p ∈ l, PutC p) : PutC (.branch k x l) := by
  intro w0 F fp v a h hnd ha
  obtain ⟨g, fps, rfl, rfl, hF, A, c, vs, hB, hc, hr, hp⟩ := h
  have hgf : g ∉ fps := (List.nodup_cons.1 hnd).1
  have hnd := (List.nodup_cons.1 hnd).2
  have hB : Blk w0 g 121 (genC k 0 [] A l.length c 0 0 0 0 false) := hB
  have hT : Turn (g :: fps) w0 w0 := ⟨rfl, fun _ _ => rfl, fun y hy => by
    rcases List.mem_cons.1 hy with rfl | hy
    · exact ⟨_, _, _, _, _, _, _, _, _, _, _, hB⟩
    · exact RnsF.nodes _ _ _ hp y hy, Calm.refl _⟩
  have hG : Turn [g] w0 w0 := ⟨rfl, fun _ _ => rfl, fun y hy => by simp only [List.mem_singleton] at hy; subst hy; exact ⟨_, _, _, _, _, _, _, _, _, _, _, hB⟩, Calm.refl _⟩
  have hwide : a + Tr.widesP l ≤ 1000000000000 := by unfold Tr.wideP at ha; exact ha
  have hptr := hp.ptrs
  have HV : Hid (Tr.putP (.branch k x l) a = Tr.putsP l ⟨a, -1, -1, false⟩) := by show _ = _; unfold Tr.putP; rfl
  have HN : Hid (∀ w', Turn (g :: fps) w0 w' → Blk w' g 121 (genC k 0 [] A l.length c a (Tr.putsP l ⟨a, -1, -1, false⟩).end_ (Tr.putsP l ⟨a, -1, -1, false⟩).from_ (Tr.putsP l ⟨a, -1, -1, false⟩).to_ (Tr.putsP l ⟨a, -1, -1, false⟩).lacks) → NpsF w' F l a fps vs → NpF w' F (.branch k x l) a (g :: fps) (.pointer (some ⟨g, 0, none⟩))) := fun w' hT hB hN =>
    ⟨g, fps, rfl, rfl, hF, A, c, vs, by rw [HV.out]; exact hB, hc, hr.turn hT hptr, hN⟩
  have HR : Hid (∀ w', Turn (g :: fps) w0 w' → RowF w' F A vs) := fun w' hT => hr.turn hT hptr
  rw [HV.out]
  clear HV ha hptr
  obtain ⟨s0, hs0⟩ : ∃ s0 : Tr.Pl, s0 = ⟨a, -1, -1, false⟩ := ⟨_, rfl⟩
  have He0 : Hid (s0.end_ = a) := by show _ = _; rw [hs0]
  have Hs0 := Lib.hid hs0
  rw [← hs0] at HN ⊢
  clear hs0
  have e0 : ((k : Int) == 0) = false := by simp; omega
  have e1 : ((k : Int) == 1) = false := by simp; omega
  have Hlen := Lib.hid hlen
  have Hwide := Lib.hid hwide
  clear hk hF hc hr hlen hwide
  go_enter Tryz.func53, Tryz.ntmps53
  obtain ⟨z0, z1, z2, z3, z4, z5, z6, z7, z8⟩ := gen_cells hB
  have y4 := hB.frozen 4
  have y5 := hB.frozen 5
  have y6 := hB.frozen 6
  have y7 := hB.frozen 7
  have y8 := hB.frozen 8
  go_upto_region 2 with fail
  have hG := hG.trans (gen_turn hB 4 (.int .i64 (a : Int)))
  have hB := (gen_set hB).1 (a : Int)
  clear z0 z1 z2 z3 z4 z5 z6 z7 z8 y4 y5 y6 y7 y8
  generalize w0.setCell ⟨g, 4, none⟩ (.int .i64 (a : Int)) = w2 at *
  obtain ⟨z0, z1, z2, z3, z4, z5, z6, z7, z8⟩ := gen_cells hB
  have y4 := hB.frozen 4
  have y5 := hB.frozen 5
  have y6 := hB.frozen 6
  have y7 := hB.frozen 7
  have y8 := hB.frozen 8
  go_upto_region 3 with fail
  have hG := hG.trans (gen_turn hB 6 (.int .i64 (-1)))
  have hB := (gen_set hB).2.2.1 (-1)
  clear z0 z1 z2 z3 z4 z5 z6 z7 z8 y4 y5 y6 y7 y8
  generalize w2.setCell ⟨g, 6, none⟩ (.int .i64 (-1)) = w3 at *
  obtain ⟨z0, z1, z2, z3, z4, z5, z6, z7, z8⟩ := gen_cells hB
  have y4 := hB.frozen 4
  have y5 := hB.frozen 5
  have y6 := hB.frozen 6
  have y7 := hB.frozen 7
  have y8 := hB.frozen 8
  go_upto_region 4 with fail
  have hG := hG.trans (gen_turn hB 7 (.int .i64 (-1)))
  have hB := (gen_set hB).2.2.2.1 (-1)
  clear z0 z1 z2 z3 z4 z5 z6 z7 z8 y4 y5 y6 y7 y8
  generalize w3.setCell ⟨g, 7, none⟩ (.int .i64 (-1)) = w4 at *
  obtain ⟨z0, z1, z2, z3, z4, z5, z6, z7, z8⟩ := gen_cells hB
  have y4 := hB.frozen 4
  have y5 := hB.frozen 5
  have y6 := hB.frozen 6
  have y7 := hB.frozen 7
  have y8 := hB.frozen 8
  go_upto_region 11 with fail
  have hG := hG.trans (gen_turn hB 8 (.bool false))
  have hB := (gen_set hB).2.2.2.2 false
  clear z0 z1 z2 z3 z4 z5 z6 z7 z8 y4 y5 y6 y7 y8
  generalize w4.setCell ⟨g, 8, none⟩ (.bool false) = w5 at *
  have hT := hT.of_mem hG (fun y hy => by simp only [List.mem_singleton] at hy; subst hy; exact List.mem_cons_self ..)
  have hp := RnsF.turn hG _ _ _ (fun y hy hm => by simp only [List.mem_singleton] at hm; subst hm; exact hgf hy) hp
  clear hG
  go_wp2_with fail
  go_loopg [1, 5] l.length (fun m v u wr => ∃ l1 l2 fps1 fps2 vs1 vs2, Hid (l = l1 ++ l2) ∧ Hid (fps = fps1 ++ fps2) ∧ Hid (vs = vs1 ++ vs2) ∧ v = .int .i64 ((Tr.putsP l1 s0).end_ : Int) ∧ u = .int .i64 (l1.length : Int) ∧ l2.length ≤ m ∧ Turn (g :: fps) w0 wr ∧ Blk wr g 121 (genC k 0 [] A l.length c a 0 (Tr.putsP l1 s0).from_ (Tr.putsP l1 s0).to_ (Tr.putsP l1 s0).lacks) ∧ NpsF wr F l1 s0.end_ fps1 vs1 ∧ RnsF wr F l2 fps2 vs2)
  case atStart =>
    refine ⟨[], l, [], fps, [], vs, rfl, rfl, rfl, ?_, rfl, Nat.le_refl _, hT, ?_, ⟨rfl, rfl⟩, hp⟩
    · simp only [Tr.putsP]; rw [He0.out]
    · simp only [Tr.putsP]; rw [Hs0.out]; exact hB
  case round =>
    clear hT hB hp
    obtain ⟨l1, l2, fps1, fps2, vs1, vs2, Hl, Hf, Hv, rfl, rfl, hm, hT, hB, hN1, hN2⟩ := hrel
    have hG : Turn [g] wr wr := ⟨rfl, fun _ _ => rfl, fun y hy => by simp only [List.mem_singleton] at hy; subst hy; exact ⟨_, _, _, _, _, _, _, _, _, _, _, hB⟩, Calm.refl _⟩
    rcases l2 with _ | ⟨p, l2⟩
    · obtain ⟨rfl, rfl⟩ := hN2
      have hl : l1 = l := by rw [Hl.out, List.append_nil]
      have hf : fps1 = fps := by rw [Hf.out, List.append_nil]
      have hv : vs1 = vs := by rw [Hv.out, List.append_nil]
      subst hl hf hv
      clear Hl Hf Hv hm HR IH
      generalize hst : Tr.putsP l1 s0 = st at *
      have d0 : decide (l1.length < l1.length) = false := by simp
      obtain ⟨z0, z1, z2, z3, z4, z5, z6, z7, z8⟩ := gen_cells hB
      have y4 := hB.frozen 4
      have y5 := hB.frozen 5
      have y6 := hB.frozen 6
      have y7 := hB.frozen 7
      have y8 := hB.frozen 8
      go_upto_region 23 with fail
      have hG := hG.trans (gen_turn hB 5 (.int .i64 (st.end_ : Int)))
      have hB := (gen_set hB).2.1 (st.end_ : Int)
      clear z0 z1 z2 z3 z4 z5 z6 z7 z8 y4 y5 y6 y7 y8
      generalize wr.setCell ⟨g, 5, none⟩ (.int .i64 (st.end_ : Int)) = w6 at *
      have hT := hT.of_mem hG (fun y hy => by simp only [List.mem_singleton] at hy; subst hy; exact List.mem_cons_self ..)
      have hN := NpsF.turn hG _ _ _ _ (fun y hy hm => by simp only [List.mem_singleton] at hm; subst hm; exact hgf hy) hN1
      rw [He0.out] at hN
      go_wp2_with fail
      go_ret
      subst hst
      exact ⟨rfl, hT, HN.out _ hT hB hN⟩
    · obtain ⟨fp, fps2', v, vs2', rfl, rfl, hpp, hN2⟩ := hN2
      have hlt : l1.length < l.length := by rw [Hl.out]; simp
      have hlen := Hlen.out
      have i0 : (0 : Int) ≤ (l1.length : Int) := by omega
      have i1 : (l1.length : Int) < (l.length : Int) := by omega
      have hvl := hN1.len
      obtain ⟨bb, oo, rfl, hcell⟩ := (HR.out _ hT).at_ (i := l1.length) (u := v) (by rw [Hv.out, ← hvl]; simp)
      have hx := IH p (by rw [Hl.out]; simp) wr F fp v (Tr.putsP l1 s0).end_ hpp (by have := hnd; rw [Hf.out] at this; exact (List.nodup_append.1 (List.nodup_append.1 this).2.1).1) (by
        rw [Tr.puts_end, He0.out]
        have := wides_get l1 p l2
        rw [← Hl.out] at this
        have := Hwide.out
        omega)
      obtain ⟨q0, rfl⟩ := hpp.form
      obtain ⟨z0, z1, z2, z3, z4, z5, z6, z7, z8⟩ := gen_cells hB
      have y4 := hB.frozen 4
      have y5 := hB.frozen 5
      have y6 := hB.frozen 6
      have y7 := hB.frozen 7
      have y8 := hB.frozen 8
      have Hst : Hid (Tr.putsP (l1 ++ [p]) s0 = Tr.joinP (Tr.putsP l1 s0) (Tr.putP p (Tr.putsP l1 s0).end_)) := Tr.puts_app l1 p s0
      have hN1' : NpsF wr F l1 s0.end_ fps1 vs1 := hN1
      have Hi1 := Lib.hid hlt
      clear hlen hlt
      generalize hst : Tr.putsP l1 s0 = st at *
      generalize hpl : Tr.putP p st.end_ = q at *
      go_wp2_with fail
      refine hx.mono ?_
      clear hx z0 z1 z2 z3 z4 z5 z6 z7 z8 y4 y5 y6 y7 y8 hcell
      rintro e1 w6 ⟨rfl, hTp, hNp⟩
      have hgfp : g ∉ fp := fun hm => hgf (by rw [Hf.out]; simp [hm])
      have hB : Blk w6 g 121 (genC k 0 [] (some ⟨bb, oo, none⟩) l.length c a 0 st.from_ st.to_ st.lacks) := (hTp.oth g hgfp).trans hB
      have hfn := hnd
      rw [Hf.out] at hfn
      have hd1 : ∀ y ∈ fps1, y ∉ fp := fun y hy hm => (List.nodup_append.1 hfn).2.2 y hy y (by simp [hm]) rfl
      have hd2 : ∀ y ∈ fps2', y ∉ fp := fun y hy hm => (List.nodup_append.1 (List.nodup_append.1 hfn).2.1).2.2 y hm y hy rfl
      have hN1 := NpsF.turn hTp _ _ _ _ hd1 hN1
      have hN2 := RnsF.turn hTp _ _ _ hd2 hN2
      have hT := hT.of_mem hTp (fun y hy => List.mem_cons_of_mem _ (by rw [Hf.out]; simp [hy]))
      have hN := NpsF.snoc hN1 (by rw [hst]; exact hNp)
      obtain ⟨q1, kk, tok, tt, A1, m1, c1, eq1, hq1, hBq⟩ := hNp.head
      obtain rfl : q0 = q1 := by simpa using eq1
      rw [hpl] at hBq
      have hqg : q0 ≠ g := fun e => hgfp (e ▸ hq1)
      have Hqg := Lib.hid hqg
      have HfG : Hid (∀ y ∈ fps1 ++ fp, y ≠ g) := fun y hy e => hgf (by rw [Hf.out]; subst e; rcases List.mem_append.1 hy with h | h <;> simp [h])
      have Hf2 : Hid (∀ y ∈ fps2', y ≠ g) := fun y hy e => hgf (by rw [Hf.out]; subst e; simp [hy])
      clear hTp hN1 hNp hd1 hd2 hfn hgfp eq1 hq1 hpl hst hG hN1' hqg
      have hGk : ∀ w', Turn [g] w6 w' → Turn (g :: fps) w0 w' ∧ NpsF w' F (l1 ++ [p]) s0.end_ (fps1 ++ fp) (vs1 ++ [.pointer (some ⟨q0, 0, none⟩)]) ∧ RnsF w' F l2 fps2' vs2' := fun w' hG =>
        ⟨hT.of_mem hG (fun y hy => by simp only [List.mem_singleton] at hy; subst hy; exact List.mem_cons_self ..), NpsF.turn hG _ _ _ _ (fun y hy hm => by simp only [List.mem_singleton] at hm; exact HfG.out y hy hm) hN, RnsF.turn hG _ _ _ (fun y hy hm => by simp only [List.mem_singleton] at hm; exact Hf2.out y hy hm) hN2⟩
      have HG := Lib.hid hGk
      clear hGk hT hN hN2 HfG Hf2
      obtain ⟨F1, hF1⟩ : ∃ F1, F1 = (if st.from_ < 0 then q.from_ else st.from_) := ⟨_, rfl⟩
      obtain ⟨U1, hU1⟩ : ∃ U1, U1 = (if st.to_ < q.to_ then q.to_ else st.to_) := ⟨_, rfl⟩
      have Hst2 : Hid (Tr.putsP (l1 ++ [p]) s0 = ⟨q.end_, F1, U1, st.lacks || q.lacks⟩) := by show _ = _; rw [Hst.out, hF1, hU1]; rfl
      have HF1 := Lib.hid hF1
      have HU1 := Lib.hid hU1
      clear hF1 hU1 Hst
      have hG : Turn [g] w6 w6 := ⟨rfl, fun _ _ => rfl, fun y hy => by simp only [List.mem_singleton] at hy; subst hy; exact ⟨_, _, _, _, _, _, _, _, _, _, _, hB⟩, Calm.refl _⟩
      have hBq := gen_cells hBq
      obtain ⟨_, _, _, _, _, _, p6, p7, p8⟩ := hBq
      obtain ⟨z0, z1, z2, z3, z4, z5, z6, z7, z8⟩ := gen_cells hB
      have y4 := hB.frozen 4
      have y5 := hB.frozen 5
      have y6 := hB.frozen 6
      have y7 := hB.frozen 7
      have y8 := hB.frozen 8
      go_upto_if 90 with fail
      go_cut [90] (fun _ wc => Turn [g] w6 wc ∧ Blk wc g 121 (genC k 0 [] (some ⟨bb, oo, none⟩) l.length c a 0 F1 st.to_ st.lacks))
      case first =>
        by_cases hneg : st.from_ < 0
        · have hf : Hid (q.from_ = F1) := by show _ = _; rw [HF1.out, if_pos hneg]
          clear HF1 HU1 Hst2 HG
          go_wp2_with fail
          go_meet
          exact ⟨hG.trans (gen_turn hB 6 (.int .i64 q.from_)), by rw [← hf.out]; exact (gen_set hB).2.2.1 q.from_⟩
        · have hf : Hid (st.from_ = F1) := by show _ = _; rw [HF1.out, if_neg hneg]
          clear HF1 HU1 Hst2 HG
          go_wp2_with fail
          go_meet
          exact ⟨hG, by rw [← hf.out]; exact hB⟩
      case rest =>
      clear hG hB z0 z1 z2 z3 z4 z5 z6 z7 z8 y4 y5 y6 y7 y8 HF1
      obtain ⟨hG, hB⟩ := hcut
      have q7 := hG.cell (fun hm => Hqg.out (by simpa using hm)) p7
      have q8 := hG.cell (fun hm => Hqg.out (by simpa using hm)) p8
      obtain ⟨z0, z1, z2, z3, z4, z5, z6, z7, z8⟩ := gen_cells hB
      have y4 := hB.frozen 4
      have y5 := hB.frozen 5
      have y6 := hB.frozen 6
      have y7 := hB.frozen 7
      have y8 := hB.frozen 8
      go_wp2_with fail
      go_quiet (fail)
      have hG := hG.drewN nq
      have hB : Blk (wc.drewN nq) g 121 (genC k 0 [] (some ⟨bb, oo, none⟩) l.length c a 0 F1 st.to_ st.lacks) := hB
      have q7 : (wc.drewN nq).cell? ⟨q0, 7, none⟩ = _ := q7
      have q8 : (wc.drewN nq).cell? ⟨q0, 8, none⟩ = _ := q8
      clear z0 z1 z2 z3 z4 z5 z6 z7 z8 y4 y5 y6 y7 y8 p6 p7 p8
      generalize wc.drewN nq = wd at *
      obtain ⟨z0, z1, z2, z3, z4, z5, z6, z7, z8⟩ := gen_cells hB
      have y4 := hB.frozen 4
      have y5 := hB.frozen 5
      have y6 := hB.frozen 6
      have y7 := hB.frozen 7
      have y8 := hB.frozen 8
      go_upto_if 106 with fail
      go_cut [106] (fun _ we => Turn [g] wd we ∧ Blk we g 121 (genC k 0 [] (some ⟨bb, oo, none⟩) l.length c a 0 F1 U1 st.lacks))
      case first =>
        have hG0 : Turn [g] wd wd := ⟨rfl, fun _ _ => rfl, fun y hy => by simp only [List.mem_singleton] at hy; subst hy; exact ⟨_, _, _, _, _, _, _, _, _, _, _, hB⟩, Calm.refl _⟩
        by_cases hneg : st.to_ < q.to_
        · have hf : Hid (q.to_ = U1) := by show _ = _; rw [HU1.out, if_pos hneg]
          clear HU1 Hst2 HG
          go_wp2_with fail
          go_meet
          exact ⟨hG0.trans (gen_turn hB 7 (.int .i64 q.to_)), by rw [← hf.out]; exact (gen_set hB).2.2.2.1 q.to_⟩
        · have hf : Hid (st.to_ = U1) := by show _ = _; rw [HU1.out, if_neg hneg]
          clear HU1 Hst2 HG
          go_wp2_with fail
          go_meet
          exact ⟨hG0, by rw [← hf.out]; exact hB⟩
      case rest =>
      clear hB z0 z1 z2 z3 z4 z5 z6 z7 z8 y4 y5 y6 y7 y8 HU1
      obtain ⟨hG2, hB⟩ := hcut
      have q8 := hG2.cell (fun hm => Hqg.out (by simpa using hm)) q8
      have hG := hG.trans hG2
      clear hG2 q7
      have Hk : Hid (IntKind.i64.wrap ((l1.length : Int) + 1) = (l1.length : Int) + 1) := by show _ = _; have := Hi1.out; have := Hlen.out; exact IntWalk.i64_in _ (by omega)
      have hkw := Hk.out
      obtain ⟨z0, z1, z2, z3, z4, z5, z6, z7, z8⟩ := gen_cells hB
      have y4 := hB.frozen 4
      have y5 := hB.frozen 5
      have y6 := hB.frozen 6
      have y7 := hB.frozen 7
      have y8 := hB.frozen 8
      cases hql : q.lacks with
      | true =>
        rw [hql] at q8 Hst2
        have HX := Lib.hid (HG.out (wc.setCell ⟨g, 8, none⟩ (.bool true)) (hG.trans (gen_turn hB 8 (.bool true))))
        have hB2 := (gen_set hB).2.2.2.2 true
        clear HG hG
        go_wp2_with fail
        go_roundg l2.length
        case rel =>
          obtain ⟨h1, h2, h3⟩ := HX.out
          refine ⟨l1 ++ [p], l2, fps1 ++ fp, fps2', vs1 ++ [.pointer (some ⟨q0, 0, none⟩)], vs2', by show _ = _; rw [Hl.out, List.append_assoc]; rfl, by show _ = _; rw [Hf.out, List.append_assoc], by show _ = _; rw [Hv.out, List.append_assoc]; rfl, by rw [Hst2.out], by simp, Nat.le_refl _, h1, ?_, h2, h3⟩
          rw [Hst2.out]
          dsimp only
          rw [Bool.or_true]
          exact hB2
        case measure => simp at hm; omega
      | false =>
        rw [hql] at q8 Hst2
        have HX := Lib.hid (HG.out wc hG)
        clear HG hG
        go_wp2_with fail
        go_roundg l2.length
        case rel =>
          obtain ⟨h1, h2, h3⟩ := HX.out
          refine ⟨l1 ++ [p], l2, fps1 ++ fp, fps2', vs1 ++ [.pointer (some ⟨q0, 0, none⟩)], vs2', by show _ = _; rw [Hl.out, List.append_assoc]; rfl, by show _ = _; rw [Hf.out, List.append_assoc], by show _ = _; rw [Hv.out, List.append_assoc]; rfl, by rw [Hst2.out], by simp, Nat.le_refl _, h1, ?_, h2, h3⟩
          rw [Hst2.out]
          dsimp only
          rw [Bool.or_false]
          exact hB
        case measure => simp at hm; omega
mutual
theorem put_all : ∀ p : Tr.PT, Tr.wfP p → PutC p
  | .leaf tok t x, _ => fun w F fp v a h hnd ha => by
    obtain ⟨g, rfl, rfl, hF, hB⟩ := h
    unfold Tr.wideP at ha
    have he : (Tr.putP (.leaf tok t x) a).end_ = a + t.length := by rw [Tr.put_end]; unfold Tr.wideP; rfl
    refine (put_leaf (x := x) hB a ha).mono fun e w' h => ⟨by rw [he]; exact h.1, h.2.1, g, rfl, rfl, hF, h.2.2⟩
  | .gap t x d, _ => fun w F fp v a h hnd ha => by
    obtain ⟨g, rfl, rfl, hF, hB⟩ := h
    have he : (Tr.putP (.gap t x d) a).end_ = a := by rw [Tr.put_end]; unfold Tr.wideP; rfl
    refine (put_gap (x := x) (d := d) hB a).mono fun e w' h => ⟨by rw [he]; exact h.1, h.2.1, g, rfl, rfl, hF, h.2.2⟩
  | .branch k x l, hw => by
    unfold Tr.wfP at hw
    exact put_branch hw.1 hw.2.1 (puts_all l hw.2.2)
theorem puts_all : ∀ l : List Tr.PT, Tr.wfsP l → ∀ p ∈ l, PutC p
  | [], _, p, hp => absurd hp (by simp)
  | q :: l, hw, p, hp => by
    unfold Tr.wfsP at hw
    rcases List.mem_cons.1 hp with he | hp
    · rw [he]; exact put_all q hw.1
    · exact puts_all l hw.2 p hp
end
end Go.Proofs.YtalklmeejdmifaaGreatDoor
/-
  WALKS of the document's tokens (package amanuensisref2): has, hexa, Letter, Words, Word.
-/
namespace Go.Proofs.YtalklmeejdmifaaGreatDoor
open Go.RowKit

theorem pre_two (s : Bs) (i : Nat) (h : i + 1 < s.length) (a b : UInt8) : [a, b].isPrefixOf (s.drop i) = (decide (s[i] = a) && decide (s[i + 1] = b)) := by
  rw [List.drop_eq_getElem_cons (by omega), List.drop_eq_getElem_cons (by omega), Bool.eq_iff_iff]
  simp [List.isPrefixOf]
  constructor
  · rintro ⟨h1, h2⟩; exact ⟨h1.symm, h2.symm⟩
  · rintro ⟨h1, h2⟩; exact ⟨h1.symm, h2.symm⟩
theorem pre_short (l : Bs) (h : l.length ≤ 1) (a b : UInt8) : [a, b].isPrefixOf l = false := by
  rcases l with _ | ⟨x, _ | ⟨y, t⟩⟩
  · rfl
  · simp [List.isPrefixOf]
  · simp at h

set_option maxHeartbeats 1000000 in
set_option maxRecDepth 100000 in
theorem has_walk (s : Bs) (i : Nat) (a b : UInt8) (w : World) (hl : s.length ≤ 100000000) (hi : i ≤ s.length) :
    Calls Tryz.prog 124 #[.string ⟨s.toArray⟩, .int .i64 i, .int .u8 a.toNat, .int .u8 b.toNat] w fun e w' => e = .returned (.bool ([a, b].isPrefixOf (s.drop i))) ∧ w' = w := by
  by_cases h : i + 1 < s.length
  · have h0 : i < s.length := by omega
    rw [pre_two s i h a b]
    have ea := bk_eq s i h0 a
    have eb := bk_eq s (i + 1) h b
    generalize decide (s[i] = a) = qa at *
    generalize decide (s[i + 1] = b) = qb at *
    generalize ((a.toNat : Nat) : Int) = x at *
    generalize ((b.toNat : Nat) : Int) = y at *
    have i0 : (0 : Int) ≤ (i : Int) := by omega
    have i1 : (i : Int) + 1 < (s.length : Int) := by omega
    have i2 : (i : Int) < (s.length : Int) := by omega
    cases qa with
    | false =>
      go_enter Tryz.func124, Tryz.ntmps124
      go_wp2_with fail
      go_ret
      exact ⟨rfl, rfl⟩
    | true =>
      cases qb with
      | false =>
        go_enter Tryz.func124, Tryz.ntmps124
        go_wp2_with fail
        go_ret
        exact ⟨rfl, rfl⟩
      | true =>
        go_enter Tryz.func124, Tryz.ntmps124
        go_wp2_with fail
        go_ret
        exact ⟨rfl, rfl⟩
  · rw [pre_short (s.drop i) (by rw [List.length_drop]; omega) a b]
    have i1 : ¬ (i : Int) + 1 < (s.length : Int) := by omega
    clear h
    generalize ((a.toNat : Nat) : Int) = x at *
    generalize ((b.toNat : Nat) : Int) = y at *
    go_enter Tryz.func124, Tryz.ntmps124
    go_wp2_with fail
    go_ret
    exact ⟨rfl, rfl⟩

def hexI (b : UInt8) : Int := match Lx.hexV b with
  | some d => (d : Int)
  | none => -1
theorem hexI_ways (b : UInt8) (n : Nat) (hn : b.toNat = n) : (48 ≤ n ∧ n ≤ 57 ∧ hexI b = (n : Int) - 48) ∨ (97 ≤ n ∧ n ≤ 102 ∧ hexI b = (n : Int) - 87) ∨ (65 ≤ n ∧ n ≤ 70 ∧ hexI b = (n : Int) - 55) ∨ (n < 48 ∧ hexI b = -1) ∨ (57 < n ∧ n < 65 ∧ hexI b = -1) ∨ (70 < n ∧ n < 97 ∧ hexI b = -1) ∨ (102 < n ∧ hexI b = -1) := by
  unfold hexI Lx.hexV
  rw [hn]
  by_cases h1 : 48 ≤ n ∧ n ≤ 57
  · rw [if_pos h1]; simp only; omega
  · rw [if_neg h1]
    by_cases h2 : 97 ≤ n ∧ n ≤ 102
    · rw [if_pos h2]; simp only; omega
    · rw [if_neg h2]
      by_cases h3 : 65 ≤ n ∧ n ≤ 70
      · rw [if_pos h3]; simp only; omega
      · rw [if_neg h3]
        have hw : n < 48 ∨ (57 < n ∧ n < 65) ∨ (70 < n ∧ n < 97) ∨ 102 < n := by omega
        rcases hw with h | ⟨h, h'⟩ | ⟨h, h'⟩ | h
        · exact .inr (.inr (.inr (.inl ⟨h, rfl⟩)))
        · exact .inr (.inr (.inr (.inr (.inl ⟨h, h', rfl⟩))))
        · exact .inr (.inr (.inr (.inr (.inr (.inl ⟨h, h', rfl⟩)))))
        · exact .inr (.inr (.inr (.inr (.inr (.inr ⟨h, rfl⟩)))))

set_option maxHeartbeats 1000000 in
set_option maxRecDepth 100000 in
theorem hexa_walk (b : UInt8) (w : World) : Calls Tryz.prog 202 #[.int .u8 b.toNat] w fun e w' => e = .returned (.int .i64 (hexI b)) ∧ w' = w := by
  have hlt := b.toNat_lt
  have hw := hexI_ways b b.toNat rfl
  generalize hexI b = H at *
  generalize b.toNat = n at *
  rcases hw with ⟨h1, h2, rfl⟩ | ⟨h1, h2, rfl⟩ | ⟨h1, h2, rfl⟩ | ⟨h1, rfl⟩ | ⟨h1, h2, rfl⟩ | ⟨h1, h2, rfl⟩ | ⟨h1, rfl⟩
  all_goals
    first | have a48 : (48 : Int) ≤ (n : Int) := by omega | have a48 : ¬ (48 : Int) ≤ (n : Int) := by omega | skip
    first | have a57 : (n : Int) ≤ 57 := by omega | have a57 : ¬ (n : Int) ≤ 57 := by omega | skip
    first | have a97 : (97 : Int) ≤ (n : Int) := by omega | have a97 : ¬ (97 : Int) ≤ (n : Int) := by omega | skip
    first | have a102 : (n : Int) ≤ 102 := by omega | have a102 : ¬ (n : Int) ≤ 102 := by omega | skip
    first | have a65 : (65 : Int) ≤ (n : Int) := by omega | have a65 : ¬ (65 : Int) ≤ (n : Int) := by omega | skip
    first | have a70 : (n : Int) ≤ 70 := by omega | have a70 : ¬ (n : Int) ≤ 70 := by omega | skip
    go_enter Tryz.func202, Tryz.ntmps202
    go_wp2_with fail
    go_ret
    exact ⟨rfl, rfl⟩

set_option maxHeartbeats 2000000 in
set_option maxRecDepth 100000 in
theorem rletter_walk (c : Nat) (hc : c < 100000000) (w : World) : Calls Tryz.prog 123 #[.int .i64 c] w fun e w' => e = .returned (.bool (Lx.letterB c)) ∧ w' = w := by
  rcases letter_cases c with ⟨hr, h | h | h⟩ | ⟨hr, h⟩ | ⟨hr, h⟩ | ⟨hr, h⟩ | ⟨hr, h⟩ | ⟨hr, h⟩ | ⟨hr, h⟩ | ⟨hr, h⟩ | ⟨hr, h⟩ | ⟨hr, h⟩ | ⟨hr, h⟩
  all_goals
    rw [hr]
    clear hr
    first | have a97 : (97 : Int) ≤ (c : Int) := by omega | have a97 : ¬ (97 : Int) ≤ (c : Int) := by omega | skip
    first | have a122 : (c : Int) ≤ 122 := by omega | have a122 : ¬ (c : Int) ≤ 122 := by omega | skip
    first | have a65 : (65 : Int) ≤ (c : Int) := by omega | have a65 : ¬ (65 : Int) ≤ (c : Int) := by omega | skip
    first | have a90 : (c : Int) ≤ 90 := by omega | have a90 : ¬ (c : Int) ≤ 90 := by omega | skip
    first | have a192 : (192 : Int) ≤ (c : Int) := by omega | have a192 : ¬ (192 : Int) ≤ (c : Int) := by omega | skip
    first | have a591 : (c : Int) ≤ 591 := by omega | have a591 : ¬ (c : Int) ≤ 591 := by omega | skip
    first | have a880 : (880 : Int) ≤ (c : Int) := by omega | have a880 : ¬ (880 : Int) ≤ (c : Int) := by omega | skip
    first | have a1023 : (c : Int) ≤ 1023 := by omega | have a1023 : ¬ (c : Int) ≤ 1023 := by omega | skip
    first | have a1024 : (1024 : Int) ≤ (c : Int) := by omega | have a1024 : ¬ (1024 : Int) ≤ (c : Int) := by omega | skip
    first | have a1279 : (c : Int) ≤ 1279 := by omega | have a1279 : ¬ (c : Int) ≤ 1279 := by omega | skip
    first | have b95 : ((c : Int) == 95) = true := by simp; omega | have b95 : ((c : Int) == 95) = false := by simp; omega | skip
    first | have b215 : ((c : Int) != 215) = true := by simp; omega | have b215 : ((c : Int) != 215) = false := by simp; omega | skip
    first | have b247 : ((c : Int) != 247) = true := by simp; omega | have b247 : ((c : Int) != 247) = false := by simp; omega | skip
    clear h
    go_enter Tryz.func123, Tryz.ntmps123
    go_wp2_with fail
    go_ret
    exact ⟨rfl, rfl⟩

set_option maxRecDepth 100000 in
theorem words_walk (w : World) : Calls Tryz.prog 159 #[] w fun e w' => ∃ A : Option Addr, e = .returned (.slice A 12 12) ∧ Rd w' w'.heap.size 1 A Lx.words.length (txtV Lx.words) ∧ Below w.heap.size w w' := by
  have hb : Below w.heap.size w (w.alloc (.cells (txtV Lx.words).toArray 9)) := (Below.refl _ _).alloc (Nat.le_refl _) _
  have hB : Blk (w.alloc (.cells (txtV Lx.words).toArray 9)) w.heap.size 9 (txtV Lx.words).toArray := Blk.new _ _ _
  go_enter Tryz.func159, Tryz.ntmps159
  go_wp2_with fail
  go_ret
  refine ⟨_, rfl, ⟨by kernel_rfl, fun _ => ⟨_, _, rfl, by simp, fun j u hu => ?_⟩⟩, hb⟩
  have h := hB.cell j
  have h2 : (w.alloc (.cells (txtV Lx.words).toArray 9)).cell? ⟨w.heap.size, j, none⟩ = (txtV Lx.words)[j]? := by simp
  rw [Nat.zero_add]
  exact h2.trans hu

set_option maxHeartbeats 1000000 in
set_option maxRecDepth 100000 in
theorem rword_walk (x : Bs) (w : World) : Calls Tryz.prog 126 #[.string ⟨x.toArray⟩] w fun e w' => e = .returned (.bool (Lx.wordM x)) ∧ Below w.heap.size w w' := by
  have hW := words_walk w
  unfold Lx.wordM
  have hlen : Lx.words.length = 12 := rfl
  generalize Lx.words = l at *
  generalize hQ : l.contains x = Q
  have HQ := Lib.hid hQ
  clear hQ
  go_enter Tryz.func126, Tryz.ntmps126
  go_wp2_with fail
  refine hW.mono ?_
  clear hW
  rintro e w1 ⟨A, rfl, h1, hb⟩
  go_wp2_with fail
  go_loop [4] (fun i => ∃ k : Nat, k ≤ 12 ∧ i = .int .i64 k ∧ Hid (x ∉ l.take k)) (fun i => 12 - (intOf i).toNat)
  case atStart => exact ⟨0, Nat.zero_le _, rfl, by show _ ∉ _; simp⟩
  case round =>
    obtain ⟨k, hk, rfl, H⟩ := hrel
    by_cases hlt : k < 12
    · have hlt2 : k < l.length := by omega
      obtain ⟨b, o, rfl, hbB, c0⟩ := Rd.txt h1 hlt2
      have i1 : (0 : Int) ≤ (k : Int) := by omega
      have i2 : (k : Int) < 12 := by omega
      have Hst : Hid (x ≠ l[k] → x ∉ l.take (k + 1)) := fun h => by
        rw [List.take_succ_eq_append_getElem hlt2, List.mem_append, List.mem_singleton]
        rintro (h2 | h2)
        · exact H.out h2
        · exact h h2
      have Hin : Hid (x = l[k] → Q = true) := fun h => by rw [← HQ.out, h]; simp
      unfold strV at c0
      generalize l[k] = y at *
      clear hlt2
      by_cases hxy : x = y
      · have hc := Lib.hid (Hin.out hxy)
        subst hxy
        go_wp2_with fail
        go_ret
        exact ⟨by rw [hc.out]; rfl, hb⟩
      · have d1 : (y == x) = false := by simp; exact fun e => hxy e.symm
        have Hn := Lib.hid (Hst.out hxy)
        clear hxy
        go_wp2_with fail
        go_round
        case rel => exact ⟨k + 1, by omega, by go_num, Hn.out⟩
        case measure => simp [intOf]; omega
    · obtain rfl : k = 12 := by omega
      have hc : Hid (Q = false) := by
        show _ = _
        rw [← HQ.out]
        have := H.out
        rw [← hlen, List.take_length] at this
        simpa using this
      go_wp2_with fail
      go_ret
      exact ⟨by rw [hc.out]; rfl, hb⟩
end Go.Proofs.YtalklmeejdmifaaGreatDoor
