/-
  JOINED of the texts DL UN TY LT UK
-/
import Derived.Test.YtgpjcjnimheglaaGreatDoorJaq
import Derived.Deep.AppendLies
import Derived.Deep.QuietTactic
import Derived.BigQuiet
import Derived.Lib.RuneBytes
import Derived.Lib.Strings
import Derived.Deep.DeepCutAuto
import Derived.Lib.ConvBytes
import Derived.Laws.Strings3
import Derived.Laws.Closers25
import Derived.Laws.Closers25b
import Derived.BigCall
import Derived.BigGuard
import Derived.Test.YtgpjcjnimheglaaGreatDoorShelfX
import Derived.Shelf.Spec.BytesIndexFunc
import Derived.Deep.RegionHeld3
import Derived.Lib.IndexMore
import Derived.Test.YtgpjcjnimheglaaGreatDoorRows
import Derived.WalkKit
import Derived.WalkSpells
import Derived.WalkLawsBesides
import Derived.Below
import Derived.Laws.OwnMore
import Derived.Deep.Draws
import Derived.Lib.Hide
import Derived.IntWalk
import Derived.Test.YtgpjcjnimheglaaGreatDoorShelfW
import Derived.Shelf.Strings.SlTrimAscii
import Derived.Lib.LaidTab
import Derived.Lib.AtoiAll
import Derived.Lib.IndexLaws
import Derived.Lib.SlTrimSet
import Derived.Lib.ItoaNum
import Derived.Lib.Atoi
import Derived.WalkMore
import Derived.ScopeJumps
import Derived.Test.YtgpjcjnimheglaaGreatDoorJar
import Derived.StillTailTactics
import Derived.Handy
import Derived.Maps.OwnOps
import Derived.Carry
import Derived.Deep.CutBlock
import Derived.Laws.AppendOwnNone
import Derived.Test.YtgpjcjnimheglaaGreatDoorJao
import Derived.Test.YtgpjcjnimheglaaGreatDoorJab
import Derived.Test.YtgpjcjnimheglaaGreatDoorJag
import Derived.Test.YtgpjcjnimheglaaGreatDoorJap
/-
  WALKS of the document's reader: Put.
-/
namespace Go.Proofs.YtgpjcjnimheglaaGreatDoor
open Go.RowKit

section
variable {w : World} {g k tok : Nat} {t : Bs} {A : Option Addr} {m c : Nat} {a e f u : Int} {b : Bool}
theorem gen_cells (h : Blk w g 112 (genC k tok t A m c a e f u b)) :
    w.cell? ⟨g, 0, none⟩ = some (.int .i64 (k : Int)) ∧ w.cell? ⟨g, 1, none⟩ = some (.int .i64 (tok : Int)) ∧ w.cell? ⟨g, 2, none⟩ = some (.string ⟨t.toArray⟩) ∧ w.cell? ⟨g, 3, none⟩ = some (.slice A m c) ∧ w.cell? ⟨g, 4, none⟩ = some (.int .i64 a) ∧ w.cell? ⟨g, 5, none⟩ = some (.int .i64 e) ∧ w.cell? ⟨g, 6, none⟩ = some (.int .i64 f) ∧ w.cell? ⟨g, 7, none⟩ = some (.int .i64 u) ∧ w.cell? ⟨g, 8, none⟩ = some (.bool b) := by
  refine ⟨h.cell 0, h.cell 1, h.cell 2, h.cell 3, h.cell 4, h.cell 5, h.cell 6, h.cell 7, h.cell 8⟩
end
theorem Turn.trans' {X : List Nat} {w w1 w' : World} (h : Turn X w w1) (h' : Turn X w1 w') : Turn X w w' := h.trans h'
/-- what Put does to a leaf or a gap, and before it comes to a branch's kids -/
def PutE (w : World) (g : Nat) (cs : Array Value) (n : Nat) (e : Ending) (w' : World) : Prop :=
  e = .returned (.int .i64 (n : Int)) ∧ Turn [g] w w' ∧ Blk w' g 112 cs
set_option maxHeartbeats 8000000 in
set_option maxRecDepth 100000 in
theorem put_leaf {w0 : World} {g tok x : Nat} {t : Bs} (hB : Blk w0 g 112 (genC 0 tok t none 0 0 0 0 0 0 false)) (a : Nat) (ha : a + t.length ≤ 1000000000000) :
    Calls Tryz.prog 47 #[.pointer (some ⟨g, 0, none⟩), .int .i64 (a : Int)] w0 (PutE w0 g (putC 0 tok t none 0 0 a (Tr.putP (.leaf tok t x) a)) (a + t.length)) := by
  have hT : Turn [g] w0 w0 := ⟨rfl, fun _ _ => rfl, fun y hy => by simp only [List.mem_singleton] at hy; subst hy; exact ⟨_, _, _, _, _, _, _, _, _, _, _, hB⟩, Calm.refl _⟩
  have a0 : IntKind.i64.wrap ((a : Int) + t.length) = (a : Int) + t.length := IntWalk.i64_in _ (by omega)
  have Ha : Hid (((a + t.length : Nat) : Int) = (a : Int) + t.length) := by show _ = _; omega
  have HP1 : Hid (tok = 1 ∨ tok = 2 → Tr.putP (.leaf tok t x) a = ⟨a + t.length, -1, -1, false⟩) := fun h => by unfold Tr.putP; rw [if_pos h]
  have HP0 : Hid (¬ (tok = 1 ∨ tok = 2) → Tr.putP (.leaf tok t x) a = ⟨a + t.length, (a : Int), ((a + t.length : Nat) : Int), false⟩) := fun h => by unfold Tr.putP; rw [if_neg h]
  generalize Tr.putP (.leaf tok t x) a = pl at *
  clear ha
  go_enter Tryz.func47, Tryz.ntmps47
  obtain ⟨z0, z1, z2, z3, z4, z5, z6, z7, z8⟩ := gen_cells hB
  have y4 := hB.frozen 4
  have y5 := hB.frozen 5
  have y6 := hB.frozen 6
  have y7 := hB.frozen 7
  have y8 := hB.frozen 8
  go_upto_region 2 with fail
  have hT := hT.trans (gen_turn hB 4 (.int .i64 (a : Int)))
  have hB := (gen_set hB).1 (a : Int)
  clear z0 z1 z2 z3 z4 z5 z6 z7 z8 y4 y5 y6 y7 y8
  generalize w0.setCell ⟨g, 4, none⟩ (.int .i64 (a : Int)) = w2 at *
  obtain ⟨z0, z1, z2, z3, z4, z5, z6, z7, z8⟩ := gen_cells hB
  have y4 := hB.frozen 4
  have y5 := hB.frozen 5
  have y6 := hB.frozen 6
  have y7 := hB.frozen 7
  have y8 := hB.frozen 8
  go_upto_region 3 with fail
  have hT := hT.trans (gen_turn hB 6 (.int .i64 (-1)))
  have hB := (gen_set hB).2.2.1 (-1)
  clear z0 z1 z2 z3 z4 z5 z6 z7 z8 y4 y5 y6 y7 y8
  generalize w2.setCell ⟨g, 6, none⟩ (.int .i64 (-1)) = w3 at *
  obtain ⟨z0, z1, z2, z3, z4, z5, z6, z7, z8⟩ := gen_cells hB
  have y4 := hB.frozen 4
  have y5 := hB.frozen 5
  have y6 := hB.frozen 6
  have y7 := hB.frozen 7
  have y8 := hB.frozen 8
  go_upto_region 4 with fail
  have hT := hT.trans (gen_turn hB 7 (.int .i64 (-1)))
  have hB := (gen_set hB).2.2.2.1 (-1)
  clear z0 z1 z2 z3 z4 z5 z6 z7 z8 y4 y5 y6 y7 y8
  generalize w3.setCell ⟨g, 7, none⟩ (.int .i64 (-1)) = w4 at *
  obtain ⟨z0, z1, z2, z3, z4, z5, z6, z7, z8⟩ := gen_cells hB
  have y4 := hB.frozen 4
  have y5 := hB.frozen 5
  have y6 := hB.frozen 6
  have y7 := hB.frozen 7
  have y8 := hB.frozen 8
  go_upto_region 6 with fail
  have hT := hT.trans (gen_turn hB 5 (.int .i64 ((a : Int) + t.length)))
  have hB := (gen_set hB).2.1 ((a : Int) + t.length)
  clear z0 z1 z2 z3 z4 z5 z6 z7 z8 y4 y5 y6 y7 y8
  generalize w4.setCell ⟨g, 5, none⟩ (.int .i64 ((a : Int) + t.length)) = w5 at *
  obtain ⟨z0, z1, z2, z3, z4, z5, z6, z7, z8⟩ := gen_cells hB
  have y4 := hB.frozen 4
  have y5 := hB.frozen 5
  have y6 := hB.frozen 6
  have y7 := hB.frozen 7
  have y8 := hB.frozen 8
  by_cases k1 : tok = 1
  · have HV := Lib.hid (HP1.out (.inl k1))
    subst k1
    clear HP1 HP0
    go_wp2_with fail
    go_ret
    exact ⟨by rw [Ha.out]; rfl, hT, by rw [HV.out]; unfold putC; dsimp only; rw [Ha.out]; exact hB⟩
  · have e1 : ((tok : Int) == 1) = false := by simp; omega
    have n1 : ((tok : Int) != 1) = true := by rw [bne, e1]; rfl
    by_cases k2 : tok = 2
    · have HV := Lib.hid (HP1.out (.inr k2))
      subst k2
      clear HP1 HP0 k1
      go_wp2_with fail
      go_ret
      exact ⟨by rw [Ha.out]; rfl, hT, by rw [HV.out]; unfold putC; dsimp only; rw [Ha.out]; exact hB⟩
    · have e2 : ((tok : Int) == 2) = false := by simp; omega
      have n2 : ((tok : Int) != 2) = true := by rw [bne, e2]; rfl
      have HV := Lib.hid (HP0.out (fun h => h.elim k1 k2))
      clear HP1 HP0 k1 k2
      go_upto_region 7 with fail
      clear z0 z1 z2 z3 z4 z5 z6 z7 z8 y4 y5 y6 y7 y8
      obtain ⟨z0, z1, z2, z3, z4, z5, z6, z7, z8⟩ := gen_cells hB
      have y4 := hB.frozen 4
      have y5 := hB.frozen 5
      have y6 := hB.frozen 6
      have y7 := hB.frozen 7
      have y8 := hB.frozen 8
      go_upto_region 8 with fail
      have hT := hT.trans (gen_turn hB 6 (.int .i64 (a : Int)))
      have hB := (gen_set hB).2.2.1 (a : Int)
      clear z0 z1 z2 z3 z4 z5 z6 z7 z8 y4 y5 y6 y7 y8
      generalize w5.setCell ⟨g, 6, none⟩ (.int .i64 (a : Int)) = w6 at *
      obtain ⟨z0, z1, z2, z3, z4, z5, z6, z7, z8⟩ := gen_cells hB
      have y4 := hB.frozen 4
      have y5 := hB.frozen 5
      have y6 := hB.frozen 6
      have y7 := hB.frozen 7
      have y8 := hB.frozen 8
      go_upto_region 9 with fail
      have hT := hT.trans (gen_turn hB 7 (.int .i64 ((a : Int) + t.length)))
      have hB := (gen_set hB).2.2.2.1 ((a : Int) + t.length)
      clear z0 z1 z2 z3 z4 z5 z6 z7 z8 y4 y5 y6 y7 y8
      generalize w6.setCell ⟨g, 7, none⟩ (.int .i64 ((a : Int) + t.length)) = w7 at *
      obtain ⟨z0, z1, z2, z3, z4, z5, z6, z7, z8⟩ := gen_cells hB
      have y4 := hB.frozen 4
      have y5 := hB.frozen 5
      have y6 := hB.frozen 6
      have y7 := hB.frozen 7
      have y8 := hB.frozen 8
      go_wp2_with fail
      go_ret
      exact ⟨by rw [Ha.out]; rfl, hT, by rw [HV.out]; unfold putC; dsimp only; rw [Ha.out]; exact hB⟩

set_option maxHeartbeats 8000000 in
set_option maxRecDepth 100000 in
theorem put_gap {w0 : World} {g x : Nat} {t : Bs} {d : Bool} (hB : Blk w0 g 112 (genC 1 0 t none 0 0 0 0 0 0 false)) (a : Nat) :
    Calls Tryz.prog 47 #[.pointer (some ⟨g, 0, none⟩), .int .i64 (a : Int)] w0 (PutE w0 g (putC 1 0 t none 0 0 a (Tr.putP (.gap t x d) a)) a) := by
  have hT : Turn [g] w0 w0 := ⟨rfl, fun _ _ => rfl, fun y hy => by simp only [List.mem_singleton] at hy; subst hy; exact ⟨_, _, _, _, _, _, _, _, _, _, _, hB⟩, Calm.refl _⟩
  have HV : Hid (Tr.putP (.gap t x d) a = ⟨a, -1, -1, true⟩) := by show _ = _; unfold Tr.putP; rfl
  generalize Tr.putP (.gap t x d) a = pl at *
  go_enter Tryz.func47, Tryz.ntmps47
  obtain ⟨z0, z1, z2, z3, z4, z5, z6, z7, z8⟩ := gen_cells hB
  have y4 := hB.frozen 4
  have y5 := hB.frozen 5
  have y6 := hB.frozen 6
  have y7 := hB.frozen 7
  have y8 := hB.frozen 8
  go_upto_region 2 with fail
  have hT := hT.trans (gen_turn hB 4 (.int .i64 (a : Int)))
  have hB := (gen_set hB).1 (a : Int)
  clear z0 z1 z2 z3 z4 z5 z6 z7 z8 y4 y5 y6 y7 y8
  generalize w0.setCell ⟨g, 4, none⟩ (.int .i64 (a : Int)) = w2 at *
  obtain ⟨z0, z1, z2, z3, z4, z5, z6, z7, z8⟩ := gen_cells hB
  have y4 := hB.frozen 4
  have y5 := hB.frozen 5
  have y6 := hB.frozen 6
  have y7 := hB.frozen 7
  have y8 := hB.frozen 8
  go_upto_region 3 with fail
  have hT := hT.trans (gen_turn hB 6 (.int .i64 (-1)))
  have hB := (gen_set hB).2.2.1 (-1)
  clear z0 z1 z2 z3 z4 z5 z6 z7 z8 y4 y5 y6 y7 y8
  generalize w2.setCell ⟨g, 6, none⟩ (.int .i64 (-1)) = w3 at *
  obtain ⟨z0, z1, z2, z3, z4, z5, z6, z7, z8⟩ := gen_cells hB
  have y4 := hB.frozen 4
  have y5 := hB.frozen 5
  have y6 := hB.frozen 6
  have y7 := hB.frozen 7
  have y8 := hB.frozen 8
  go_upto_region 4 with fail
  have hT := hT.trans (gen_turn hB 7 (.int .i64 (-1)))
  have hB := (gen_set hB).2.2.2.1 (-1)
  clear z0 z1 z2 z3 z4 z5 z6 z7 z8 y4 y5 y6 y7 y8
  generalize w3.setCell ⟨g, 7, none⟩ (.int .i64 (-1)) = w4 at *
  obtain ⟨z0, z1, z2, z3, z4, z5, z6, z7, z8⟩ := gen_cells hB
  have y4 := hB.frozen 4
  have y5 := hB.frozen 5
  have y6 := hB.frozen 6
  have y7 := hB.frozen 7
  have y8 := hB.frozen 8
  go_upto_region 11 with fail
  have hT := hT.trans (gen_turn hB 8 (.bool true))
  have hB := (gen_set hB).2.2.2.2 true
  clear z0 z1 z2 z3 z4 z5 z6 z7 z8 y4 y5 y6 y7 y8
  generalize w4.setCell ⟨g, 8, none⟩ (.bool true) = w5 at *
  obtain ⟨z0, z1, z2, z3, z4, z5, z6, z7, z8⟩ := gen_cells hB
  have y4 := hB.frozen 4
  have y5 := hB.frozen 5
  have y6 := hB.frozen 6
  have y7 := hB.frozen 7
  have y8 := hB.frozen 8
  go_wp2_with fail
  clear z0 z1 z2 z3 z4 z5 z6 z7 z8 y4 y5 y6 y7 y8
  go_loopg [1, 5] 0 (fun q v u wr => v = .int .i64 (a : Int) ∧ u = .int .i64 0 ∧ Turn [g] w0 wr ∧ Blk wr g 112 (genC 1 0 t none 0 0 (a : Int) 0 (-1) (-1) true))
  case atStart => exact ⟨rfl, rfl, hT, hB⟩
  case round =>
    clear hT hB
    obtain ⟨rfl, rfl, hT, hB⟩ := hrel
    obtain ⟨z0, z1, z2, z3, z4, z5, z6, z7, z8⟩ := gen_cells hB
    have y4 := hB.frozen 4
    have y5 := hB.frozen 5
    have y6 := hB.frozen 6
    have y7 := hB.frozen 7
    have y8 := hB.frozen 8
    go_upto_region 23 with fail
    have hT := hT.trans (gen_turn hB 5 (.int .i64 (a : Int)))
    have hB := (gen_set hB).2.1 (a : Int)
    clear z0 z1 z2 z3 z4 z5 z6 z7 z8 y4 y5 y6 y7 y8
    generalize wr.setCell ⟨g, 5, none⟩ (.int .i64 (a : Int)) = w6 at *
    go_wp2_with fail
    go_ret
    exact ⟨rfl, hT, by rw [HV.out]; exact hB⟩

end Go.Proofs.YtgpjcjnimheglaaGreatDoor
/-
  WALKS: amanuensissame.Node: the program's tree and the document's.
-/
namespace Go.Proofs.YtgpjcjnimheglaaGreatDoor
open Go.RowKit

section
variable {w w' : World} {F F' : Nat → Prop}
theorem NdsF.at_ : ∀ {l : List Tr.PT} {vs : List Value} {i : Nat}, NdsF w F l vs → ∀ (h : i < l.length), ∃ (a b : Nat) (t : Bs) (A : Option Addr) (n : Nat), vs[i * 4]? = some (.int .i64 (a : Int)) ∧ vs[i * 4 + 1]? = some (.int .i64 (b : Int)) ∧ vs[i * 4 + 2]? = some (.string ⟨t.toArray⟩) ∧ vs[i * 4 + 3]? = some (.slice A n n) ∧ NdF w F l[i] [.int .i64 (a : Int), .int .i64 (b : Int), .string ⟨t.toArray⟩, .slice A n n]
  | [], _, _, _, h => absurd h (by simp)
  | p :: l, vs, 0, hp, _ => by
    obtain ⟨v, vs', rfl, h, _⟩ := hp
    obtain ⟨a, b, t, A, n, rfl⟩ := h.form
    exact ⟨a, b, t, A, n, rfl, rfl, rfl, rfl, h⟩
  | p :: l, vs, i + 1, hp, h => by
    obtain ⟨v, vs', rfl, hv, hl⟩ := hp
    obtain ⟨a, b, t, A, n, rfl⟩ := hv.form
    obtain ⟨a', b', t', A', n', h0, h1, h2, h3, h4⟩ := NdsF.at_ (i := i) hl (by simpa using h)
    exact ⟨a', b', t', A', n', by rw [Nat.succ_mul]; exact h0, by rw [Nat.succ_mul]; exact h1, by rw [Nat.succ_mul]; exact h2, by rw [Nat.succ_mul]; exact h3, h4⟩
theorem NdsF.len : ∀ {l : List Tr.PT} {vs : List Value}, NdsF w F l vs → vs.length = l.length * 4
  | [], vs, h => by have : vs = [] := h; subst this; rfl
  | p :: l, vs, h => by
    obtain ⟨v, vs', rfl, hv, hl⟩ := h
    obtain ⟨a, b, t, A, n, rfl⟩ := hv.form
    have := NdsF.len hl
    simp only [List.length_append, List.length_cons, List.length_nil]
    omega
theorem NpsF.at_ : ∀ {l : List Tr.PT} {a : Nat} {fps : List Nat} {vs : List Value} {i : Nat}, NpsF w F l a fps vs → ∀ (h : i < l.length), ∃ q a' fp, vs[i]? = some (.pointer (some ⟨q, 0, none⟩)) ∧ NpF w F l[i] a' fp (.pointer (some ⟨q, 0, none⟩))
  | [], _, _, _, _, _, h => absurd h (by simp)
  | p :: l, a, fps, vs, 0, hp, _ => by
    obtain ⟨fp, fps', v, vs', rfl, rfl, h, _⟩ := hp
    obtain ⟨q, rfl⟩ := h.form
    exact ⟨q, a, fp, rfl, h⟩
  | p :: l, a, fps, vs, i + 1, hp, h => by
    obtain ⟨fp, fps', v, vs', rfl, rfl, _, hl⟩ := hp
    have := NpsF.at_ (i := i) hl (by simpa using h)
    simpa using this
mutual
theorem NpF.keep (hs : w.heap.size ≤ w'.heap.size) (hk : ∀ b, F b → b < w.heap.size → w'.heap[b]? = w.heap[b]? ∧ F' b) : ∀ (p : Tr.PT) (a : Nat) (fp : List Nat) (v : Value), NpF w F p a fp v → NpF w' F' p a fp v
  | .leaf k t _, a, fp, v, h => by
    obtain ⟨g, e, ef, hF, hB⟩ := h
    have := hk g hF hB.lt
    exact ⟨g, e, ef, this.2, this.1.trans hB⟩
  | .gap t _ d, a, fp, v, h => by
    obtain ⟨g, e, ef, hF, hB⟩ := h
    have := hk g hF hB.lt
    exact ⟨g, e, ef, this.2, this.1.trans hB⟩
  | .branch k _ l, a, fp, v, h => by
    obtain ⟨g, fps, e, ef, hF, A, c, vs, hB, hc, hr, hp⟩ := h
    have := hk g hF hB.lt
    exact ⟨g, fps, e, ef, this.2, A, c, vs, this.1.trans hB, hc, hr.keep hs hk, NpsF.keep hs hk l a fps vs hp⟩
theorem NpsF.keep (hs : w.heap.size ≤ w'.heap.size) (hk : ∀ b, F b → b < w.heap.size → w'.heap[b]? = w.heap[b]? ∧ F' b) : ∀ (l : List Tr.PT) (a : Nat) (fps : List Nat) (vs : List Value), NpsF w F l a fps vs → NpsF w' F' l a fps vs
  | [], a, fps, vs, h => h
  | p :: l, a, fps, vs, h => by
    obtain ⟨fp, fps', v, vs', ef, e, hp, hl⟩ := h
    exact ⟨fp, fps', v, vs', ef, e, NpF.keep hs hk p a fp v hp, NpsF.keep hs hk l _ fps' vs' hl⟩
end
end
theorem h1234 {a b c d a' b' c' d' : Value} (h : [a, b, c, d] = [a', b', c', d']) : (#[a, b, c, d] : Array Value) = #[a', b', c', d'] := by
  injection h with h1 h
  injection h with h2 h
  injection h with h3 h
  injection h with h4 h
  rw [h1, h2, h3, h4]
/-- what Node answers of a part, in plain data and as the document's node -/
def SameC (p : Tr.PT) : Prop := ∀ (w : World) (F F' : Nat → Prop) (a : Nat) (fp : List Nat) (v : Value) (k tok : Nat) (t : Bs) (A : Option Addr) (n : Nat), NdF w F p [.int .i64 (k : Int), .int .i64 (tok : Int), .string ⟨t.toArray⟩, .slice A n n] → NpF w F' p a fp v →
  Calls Tryz.prog 23 #[.agg #[.int .i64 (k : Int), .int .i64 (tok : Int), .string ⟨t.toArray⟩, .slice A n n], v] w fun e w' => e = .returned (.bool true) ∧ Below w.heap.size w w'
set_option maxHeartbeats 16000000 in
set_option maxRecDepth 100000 in
theorem same_core {w : World} {F F' : Nat → Prop} {k tok q at_ : Nat} {t : Bs} {A A' : Option Addr} {c : Nat} {a e f u : Int} {b : Bool} {l : List Tr.PT} {vs us : List Value} {fps : List Nat}
    (hB : Blk w q 112 (genC k tok t A' l.length c a e f u b)) (hr : RowF w F A vs) (hn : NdsF w F l vs) (hr' : RowF w F' A' us) (hp : NpsF w F' l at_ fps us) (hl : l.length ≤ 1000000000) (IH : ∀ p ∈ l, SameC p) :
    Calls Tryz.prog 23 #[.agg #[.int .i64 (k : Int), .int .i64 (tok : Int), .string ⟨t.toArray⟩, .slice A l.length l.length], .pointer (some ⟨q, 0, none⟩)] w fun e w' => e = .returned (.bool true) ∧ Below w.heap.size w w' := by
  have hd : Below w.heap.size w (w.alloc (.cells #[.int .i64 (k : Int), .int .i64 (tok : Int), .string ⟨t.toArray⟩, .slice A l.length l.length] 48)) := (Below.refl _ _).alloc (Nat.le_refl _) _
  have hb : Blk (w.alloc (.cells #[.int .i64 (k : Int), .int .i64 (tok : Int), .string ⟨t.toArray⟩, .slice A l.length l.length] 48)) w.heap.size 48 #[.int .i64 (k : Int), .int .i64 (tok : Int), .string ⟨t.toArray⟩, .slice A l.length l.length] := Blk.new _ _ _
  have hB1 := hB.below hd hB.lt
  obtain ⟨bx, hbx⟩ : ∃ x, x = w.heap.size := ⟨_, rfl⟩
  rw [← hbx] at hb
  go_enter Tryz.func23, Tryz.ntmps23
  go_upto_region 1 with fail
  rw [← hbx]
  clear hbx
  generalize w.alloc (.cells #[.int .i64 (k : Int), .int .i64 (tok : Int), .string ⟨t.toArray⟩, .slice A l.length l.length] 48) = w1 at *
  obtain ⟨z0, z1, z2, z3, _⟩ := gen_cells hB1
  have b0 := hb.cell 0
  have b1 := hb.cell 1
  have b2 := hb.cell 2
  have b3 := hb.cell 3
  simp at b0 b1 b2 b3
  have Hl := Lib.hid hl
  clear hl
  go_quiet (fail)
  have hd := below_drewN hd nq
  have hb : Blk (w1.drewN nq) bx 48 #[.int .i64 (k : Int), .int .i64 (tok : Int), .string ⟨t.toArray⟩, .slice A l.length l.length] := hb
  clear z0 z1 z2 z3 b0 b1 b2 b3 hB1
  generalize w1.drewN nq = w2 at *
  go_wp2_with fail
  go_loopg [5] l.length (fun m v wr => ∃ i : Nat, v = .int .i64 (i : Int) ∧ i ≤ l.length ∧ l.length - i ≤ m ∧ Blk wr bx 48 #[.int .i64 (k : Int), .int .i64 (tok : Int), .string ⟨t.toArray⟩, .slice A l.length l.length] ∧ Below w.heap.size w wr)
  case atStart => exact ⟨0, rfl, Nat.zero_le _, Nat.le_refl _, hb, hd⟩
  case round =>
    clear hb hd
    obtain ⟨i, rfl, hi, hm, hb, hd⟩ := hrel
    have b3 := hb.cell 3
    simp at b3
    by_cases hlt : i < l.length
    · have ii0 : (0 : Int) ≤ (i : Int) := by omega
      have ii1 : (i : Int) < (l.length : Int) := by omega
      obtain ⟨ka, kb, kt, kA, kn, v0, v1, v2, v3, hnd⟩ := hn.at_ hlt
      obtain ⟨kq, ka', kfp, hu, hnp⟩ := hp.at_ hlt
      obtain ⟨ba, oa, rfl, _, hba, hca⟩ := hr (by have := hn.len; omega)
      obtain ⟨bb, ob, rfl, _, hbb, hcb⟩ := hr' (by have := hp.len; omega)
      have e0 := hca _ _ v0
      have e1 := hca _ _ v1
      have e2 := hca _ _ v2
      have e3 := hca _ _ v3
      rw [← Nat.add_assoc] at e1 e2 e3
      have e4 := hcb _ _ hu
      have q0 := (hd.cell (p := ⟨ba, oa + i * 4, none⟩) hba).trans e0
      have q1 := (hd.cell (p := ⟨ba, oa + i * 4 + 1, none⟩) hba).trans e1
      have q2 := (hd.cell (p := ⟨ba, oa + i * 4 + 2, none⟩) hba).trans e2
      have q3 := (hd.cell (p := ⟨ba, oa + i * 4 + 3, none⟩) hba).trans e3
      have q4 := (hd.cell (p := ⟨bb, ob + i, none⟩) hbb).trans e4
      have z3 := (gen_cells (hB.below hd hB.lt)).2.2.2.1
      have hsame := IH l[i] (List.getElem_mem hlt)
      generalize l[i] = p at *
      have Hlt := Lib.hid hlt
      have Hm := Lib.hid hm
      clear v0 v1 v2 v3 hu hca hcb e0 e1 e2 e3 e4 hlt hm hi
      go_wp2_with fail
      refine wp_region_G 13 (fun w' : World => w'.cell? ⟨bx, 3, none⟩ = some (.slice (some ⟨ba, oa, none⟩) l.length l.length) ∧ w'.cell? ⟨ba, oa + i * 4, none⟩ = some (.int .i64 (ka : Int)) ∧ w'.cell? ⟨ba, oa + i * 4 + 1, none⟩ = some (.int .i64 (kb : Int)) ∧ w'.cell? ⟨ba, oa + i * 4 + 2, none⟩ = some (.string ⟨kt.toArray⟩) ∧ w'.cell? ⟨ba, oa + i * 4 + 3, none⟩ = some (.slice kA kn kn) ∧ w'.cell? ⟨q, 3, none⟩ = some (.slice (some ⟨bb, ob, none⟩) l.length c) ∧ w'.cell? ⟨bb, ob + i, none⟩ = some (.pointer (some ⟨kq, 0, none⟩))) (by kernel_rfl) ?_
      have hdr : Below wr.heap.size wr wr.drew := (Below.refl _ _).drew
      have hb := hb.drew
      have hd := hd.drew
      have hS0 : (fun w' : World => w'.cell? ⟨bx, 3, none⟩ = some (.slice (some ⟨ba, oa, none⟩) l.length l.length) ∧ w'.cell? ⟨ba, oa + i * 4, none⟩ = some (.int .i64 (ka : Int)) ∧ w'.cell? ⟨ba, oa + i * 4 + 1, none⟩ = some (.int .i64 (kb : Int)) ∧ w'.cell? ⟨ba, oa + i * 4 + 2, none⟩ = some (.string ⟨kt.toArray⟩) ∧ w'.cell? ⟨ba, oa + i * 4 + 3, none⟩ = some (.slice kA kn kn) ∧ w'.cell? ⟨q, 3, none⟩ = some (.slice (some ⟨bb, ob, none⟩) l.length c) ∧ w'.cell? ⟨bb, ob + i, none⟩ = some (.pointer (some ⟨kq, 0, none⟩))) wr.drew := ⟨b3, q0, q1, q2, q3, z3, q4⟩
      have Hs := Lib.hid hS0
      have HsB : Hid (∀ w', Below wr.drew.heap.size wr.drew w' → (fun w' : World => w'.cell? ⟨bx, 3, none⟩ = some (.slice (some ⟨ba, oa, none⟩) l.length l.length) ∧ w'.cell? ⟨ba, oa + i * 4, none⟩ = some (.int .i64 (ka : Int)) ∧ w'.cell? ⟨ba, oa + i * 4 + 1, none⟩ = some (.int .i64 (kb : Int)) ∧ w'.cell? ⟨ba, oa + i * 4 + 2, none⟩ = some (.string ⟨kt.toArray⟩) ∧ w'.cell? ⟨ba, oa + i * 4 + 3, none⟩ = some (.slice kA kn kn) ∧ w'.cell? ⟨q, 3, none⟩ = some (.slice (some ⟨bb, ob, none⟩) l.length c) ∧ w'.cell? ⟨bb, ob + i, none⟩ = some (.pointer (some ⟨kq, 0, none⟩))) w') := fun w' hb4 => by
        obtain ⟨x0, x1, x2, x3, x4, x5, x6⟩ := Hs.out
        have g0 := World.block_lt_of_cell? _ _ x0
        have g1 := World.block_lt_of_cell? _ _ x1
        have g5 := World.block_lt_of_cell? _ _ x5
        have g6 := World.block_lt_of_cell? _ _ x6
        exact ⟨(hb4.cell g0).trans x0, (hb4.cell g1).trans x1, (hb4.cell (p := ⟨ba, oa + i * 4 + 1, none⟩) g1).trans x2, (hb4.cell (p := ⟨ba, oa + i * 4 + 2, none⟩) g1).trans x3, (hb4.cell (p := ⟨ba, oa + i * 4 + 3, none⟩) g1).trans x4, (hb4.cell g5).trans x5, (hb4.cell g6).trans x6⟩
      clear b3 q0 q1 q2 q3 z3 q4 hdr Hs
      generalize wr.drew = w3 at *
      refine wpAnyG_take (i := 0) (v := ?_) rfl (by kernel_rfl) (by kernel_rfl) (by kernel_rfl) (by kernel_rfl) (fun _ _ _ h => h) (Or.inl ⟨by rfl, ?_⟩) hS0 ?_; rotate_left; · (intro w hSw; (try dsimp only at hSw); obtain ⟨s0, s1, s2, s3, s4, s5, s6⟩ := hSw; go_simp; try with_reducible rfl)
      simp only [Act.put, List.setIfInBounds_toArray]
      refine wpAnyG_take (i := 1) (v := ?_) rfl (by kernel_rfl) (by kernel_rfl) (by kernel_rfl) (by kernel_rfl) (fun _ _ _ h => h) (Or.inl ⟨by rfl, ?_⟩) hS0 ?_; rotate_left; · (intro w hSw; (try dsimp only at hSw); obtain ⟨s0, s1, s2, s3, s4, s5, s6⟩ := hSw; go_simp; try with_reducible rfl)
      simp only [Act.put]
      refine wpAnyG_take (i := 2) (v := ?_) rfl (by kernel_rfl) (by kernel_rfl) (by kernel_rfl) (by kernel_rfl) (fun _ _ _ h => h) (Or.inl ⟨by rfl, ?_⟩) hS0 ?_; rotate_left; · (intro w hSw; (try dsimp only at hSw); obtain ⟨s0, s1, s2, s3, s4, s5, s6⟩ := hSw; go_simp; try with_reducible rfl)
      simp only [Act.put]
      refine wpAnyG_take (i := 3) (v := ?_) rfl (by kernel_rfl) (by kernel_rfl) (by kernel_rfl) (by kernel_rfl) (fun _ _ _ h => h) (Or.inl ⟨by rfl, ?_⟩) hS0 ?_; rotate_left; · (intro w hSw; (try dsimp only at hSw); obtain ⟨s0, s1, s2, s3, s4, s5, s6⟩ := hSw; go_simp; try with_reducible rfl)
      simp only [Act.put]
      refine wpAnyG_take (i := 4) (v := ?_) rfl (by kernel_rfl) (by kernel_rfl) (by kernel_rfl) (by kernel_rfl) (fun _ _ _ h => h) (Or.inl ⟨by rfl, ?_⟩) hS0 ?_; rotate_left; · (intro w hSw; (try dsimp only at hSw); obtain ⟨s0, s1, s2, s3, s4, s5, s6⟩ := hSw; go_simp; try with_reducible rfl)
      simp only [Act.put]
      refine wpAnyG_take (i := 5) (v := ?_) rfl (by kernel_rfl) (by kernel_rfl) (by kernel_rfl) (by kernel_rfl) (fun _ _ _ h => h) (Or.inl ⟨by rfl, ?_⟩) hS0 ?_; rotate_left; · (intro w hSw; (try dsimp only at hSw); obtain ⟨s0, s1, s2, s3, s4, s5, s6⟩ := hSw; go_simp; try with_reducible rfl)
      simp only [Act.put]
      refine wpAnyG_take (i := 6) (v := ?_) rfl (by kernel_rfl) (by kernel_rfl) (by kernel_rfl) (by kernel_rfl) (fun _ _ _ h => h) (Or.inl ⟨by rfl, ?_⟩) hS0 ?_; rotate_left; · (intro w hSw; (try dsimp only at hSw); obtain ⟨s0, s1, s2, s3, s4, s5, s6⟩ := hSw; go_simp; try with_reducible rfl)
      simp only [Act.put]
      refine wpAnyG_take (i := 7) (v := ?_) rfl (by kernel_rfl) (by kernel_rfl) (by kernel_rfl) (by kernel_rfl) (fun _ _ _ h => h) (Or.inl ⟨by rfl, ?_⟩) hS0 ?_; rotate_left; · (intro w hSw; (try dsimp only at hSw); obtain ⟨s0, s1, s2, s3, s4, s5, s6⟩ := hSw; go_simp; try with_reducible rfl)
      simp only [Act.put]
      refine wpAnyG_take (i := 8) (v := ?_) rfl (by kernel_rfl) (by kernel_rfl) (by kernel_rfl) (by kernel_rfl) (fun _ _ _ h => h) (Or.inl ⟨by rfl, ?_⟩) hS0 ?_; rotate_left; · (intro w hSw; (try dsimp only at hSw); obtain ⟨s0, s1, s2, s3, s4, s5, s6⟩ := hSw; go_simp; try with_reducible rfl)
      simp only [Act.put]
      refine wpAnyG_take (i := 9) (v := ?_) rfl (by kernel_rfl) (by kernel_rfl) (by kernel_rfl) (by kernel_rfl) (fun _ _ _ h => h) (Or.inl ⟨by rfl, ?_⟩) hS0 ?_; rotate_left; · (intro w hSw; (try dsimp only at hSw); obtain ⟨s0, s1, s2, s3, s4, s5, s6⟩ := hSw; go_simp; try with_reducible rfl)
      simp only [Act.put]
      refine wpAnyG_take (i := 10) (v := ?_) rfl (by kernel_rfl) (by kernel_rfl) (by kernel_rfl) (by kernel_rfl) (fun _ _ _ h => h) (Or.inl ⟨by rfl, ?_⟩) hS0 ?_; rotate_left; · (intro w hSw; (try dsimp only at hSw); obtain ⟨s0, s1, s2, s3, s4, s5, s6⟩ := hSw; go_simp; try with_reducible rfl)
      simp only [Act.put]
      refine wpAnyG_take (i := 11) (v := ?_) rfl (by kernel_rfl) (by kernel_rfl) (by kernel_rfl) (by kernel_rfl) (fun _ _ _ h => h) (Or.inl ⟨by rfl, ?_⟩) hS0 ?_; rotate_left; · (intro w hSw; (try dsimp only at hSw); obtain ⟨s0, s1, s2, s3, s4, s5, s6⟩ := hSw; go_simp; try with_reducible rfl)
      simp only [Act.put]
      clear hS0
      have hcl := hsame w3 F F' ka' kfp _ ka kb kt kA kn (NdF.keep (F' := F) (Nat.le_trans (Nat.le_refl _) hd.size) (fun x hx hl => ⟨hd.block x hl, hx⟩) _ _ hnd) (NpF.keep (F' := F') hd.size (fun x hx hl => ⟨hd.block x hl, hx⟩) _ _ _ _ hnp)
      refine wpAnyG_one (i := 12) (by kernel_rfl) rfl (fun C hC => ?_)
      go_simp
      ((with_reducible refine hcl.mono ?_))
      clear hcl
      rintro e w4 ⟨rfl, hb4⟩
      refine hC.out _ _ (fun _ => HsB.out w4 hb4) ?_
      clear hC C HsB
      have hd := hd.trans (hb4.mono hd.size)
      have hb := hb.below hb4 hb.lt
      clear hb4
      refine wpAnyG_one (i := 13) (by kernel_rfl) rfl (fun C hC => ?_)
      go_simp
      refine hC.out _ _ (fun h => absurd rfl h) ?_
      clear hC C
      refine wpAnyG_done (by kernel_rfl) ?_ _
      have c1 : IntKind.i64.wrap ((i : Int) + 1) = (i : Int) + 1 := IntWalk.i64_in _ (by have := Hlt.out; have := Hl.out; omega)
      go_wp2_with fail
      go_roundg (l.length - (i + 1))
      case rel => exact ⟨i + 1, by go_num, by have := Hlt.out; omega, Nat.le_refl _, hb, hd⟩
      case measure => have := Hlt.out; have := Hm.out; omega
    · obtain rfl : i = l.length := by omega
      have i1 : ¬ (l.length : Int) < (l.length : Int) := by omega
      have i2 : decide (l.length < l.length) = false := by simp
      clear hlt
      go_wp2_with fail
      go_ret
      exact ⟨rfl, hd⟩
mutual
theorem same_all : ∀ p : Tr.PT, Tr.wfP p → SameC p
  | .leaf k0 t0 x, _ => fun w F F' a fp v k tok t A n h h' => by
    have h : [Value.int .i64 (k : Int), .int .i64 (tok : Int), .string ⟨t.toArray⟩, .slice A n n] = [.int .i64 0, .int .i64 (k0 : Int), .string ⟨t0.toArray⟩, .slice none 0 0] := h
    obtain ⟨g, rfl, _, hF, hB⟩ := h'
    rw [h1234 h]
    exact same_core (k := 0) (tok := k0) (t := t0) (A := none) (A' := none) (l := []) (vs := []) (us := []) (F := F) (F' := F') (fps := []) (at_ := 0) hB (fun hn => absurd hn (by simp)) rfl (fun hn => absurd hn (by simp)) ⟨rfl, rfl⟩ (by simp) (fun p hp => absurd hp (by simp))
  | .gap t0 x d, _ => fun w F F' a fp v k tok t A n h h' => by
    have h : [Value.int .i64 (k : Int), .int .i64 (tok : Int), .string ⟨t.toArray⟩, .slice A n n] = [.int .i64 1, .int .i64 0, .string ⟨t0.toArray⟩, .slice none 0 0] := h
    obtain ⟨g, rfl, _, hF, hB⟩ := h'
    rw [h1234 h]
    exact same_core (k := 1) (tok := 0) (t := t0) (A := none) (A' := none) (l := []) (vs := []) (us := []) (F := F) (F' := F') (fps := []) (at_ := 0) hB (fun hn => absurd hn (by simp)) rfl (fun hn => absurd hn (by simp)) ⟨rfl, rfl⟩ (by simp) (fun p hp => absurd hp (by simp))
  | .branch k0 x l, hw => fun w F F' a fp v k tok t A n h h' => by
    unfold Tr.wfP at hw
    obtain ⟨A1, vs, h, hr, hn⟩ := h
    obtain ⟨g, fps, rfl, _, hF, A2, c, us, hB, hc, hr2, hp⟩ := h'
    rw [h1234 h]
    exact same_core (k := k0) (tok := 0) (t := []) (F := F) (F' := F') hB hr hn hr2 hp hw.2.1 (sames_all l hw.2.2)
theorem sames_all : ∀ l : List Tr.PT, Tr.wfsP l → ∀ p ∈ l, SameC p
  | [], _, p, hp => absurd hp (by simp)
  | q :: l, hw, p, hp => by
    unfold Tr.wfsP at hw
    rcases List.mem_cons.1 hp with he | hp
    · rw [he]; exact same_all q hw.1
    · exact sames_all l hw.2 p hp
end
end Go.Proofs.YtgpjcjnimheglaaGreatDoor
/-
  TREES, plainly: the tokens of a text stand side by side.
-/
namespace Go.Proofs.YtgpjcjnimheglaaGreatDoor

/-- tokens from place a to place e -/
def Lx.Chain : Nat → Nat → List (Nat × Nat × Nat) → Prop
  | a, e, [] => a = e
  | a, e, t :: R => t.2.1 = a ∧ 1 ≤ t.2.2 ∧ 1 ≤ t.1 ∧ t.1 ≤ 8 ∧ Lx.Chain (a + t.2.2) e R
theorem Lx.chain_tok : ∀ (n a : Nat) (l : List UInt8), l.length ≤ n → Lx.Chain a (a + l.length) (Lx.tokR a l)
  | 0, a, l, h => by
    obtain rfl : l = [] := List.eq_nil_of_length_eq_zero (by omega)
    rw [Lx.tokR_nil]; rfl
  | n + 1, a, l, h => by
    by_cases hne : l = []
    · subst hne; rw [Lx.tokR_nil]; rfl
    · have h1 := Lx.one_le l hne
      rw [Lx.tokR_cons a hne]
      refine ⟨rfl, h1.1, h1.2.2.1, h1.2.2.2, ?_⟩
      have := Lx.chain_tok n (a + (Lx.oneM l).2) (l.drop (Lx.oneM l).2) (by rw [List.length_drop]; omega)
      rw [List.length_drop] at this
      dsimp only
      rwa [show a + (Lx.oneM l).2 + (l.length - (Lx.oneM l).2) = a + l.length by omega] at this
theorem Lx.chain_head {a e : Nat} {R : List (Nat × Nat × Nat)} (h : Lx.Chain a e R) : a = (R[0]?.map (·.2.1)).getD e := by
  cases R with
  | nil => exact h
  | cons t R => simp [h.1]
theorem Lx.chain_drop {e : Nat} : ∀ (i a : Nat) (R : List (Nat × Nat × Nat)), Lx.Chain a e R → Lx.Chain ((R[i]?.map (·.2.1)).getD e) e (R.drop i)
  | 0, a, R, h => by rw [List.drop_zero, ← Lx.chain_head h]; exact h
  | i + 1, a, [], h => by simp; rfl
  | i + 1, a, t :: R, h => by simpa using Lx.chain_drop i _ R h.2.2.2.2
theorem Lx.chain_le {e : Nat} : ∀ (a : Nat) (R : List (Nat × Nat × Nat)), Lx.Chain a e R → a ≤ e
  | a, [], h => by have : a = e := h; omega
  | a, t :: R, h => by have := Lx.chain_le _ R h.2.2.2.2; omega
theorem Lx.chain_side {s : List UInt8} {T : List (Nat × Nat × Nat)} (h : Lx.Chain 0 s.length T) (hT : T.length ≤ 400000000) : Tr.Side s T := by
  have habs : ∀ i, Lx.Chain (Tr.absP s T i) s.length (T.drop i) := fun i => Lx.chain_drop i 0 T h
  have hk : ∀ k (hk : k < T.length), T[k].2.1 = Tr.absP s T k ∧ 1 ≤ T[k].2.2 ∧ 1 ≤ T[k].1 ∧ T[k].1 ≤ 8 ∧ Lx.Chain (Tr.absP s T k + T[k].2.2) s.length (T.drop (k + 1)) := fun k hk => by
    have := habs k
    rw [List.drop_eq_getElem_cons hk] at this
    exact this
  have htile : ∀ k (h : k < T.length), T[k].2.1 + T[k].2.2 = Tr.absP s T (k + 1) := fun k hlt => by
    obtain ⟨h1, _, _, _, h5⟩ := hk k hlt
    rw [h1, Lx.chain_head h5]
    unfold Tr.absP
    rw [List.getElem?_drop, Nat.add_zero]
  refine ⟨⟨fun t ht => ?_, fun i j hij => ?_⟩, htile, ?_, hT⟩
  · obtain ⟨k, hlt, rfl⟩ := List.getElem_of_mem ht
    obtain ⟨h1, h2, h3, h4, h5⟩ := hk k hlt
    have := Lx.chain_le _ _ h5
    omega
  · induction j with
    | zero => obtain rfl : i = 0 := by omega
              exact Nat.le_refl _
    | succ j ih =>
      by_cases e : i = j + 1
      · subst e; exact Nat.le_refl _
      · have h1 := ih (by omega)
        by_cases hj : j < T.length
        · have h2 := htile j hj
          have h3 := (hk j hj).1
          omega
        · have h2 := Tr.abs_end s T j (by omega)
          have h3 := Tr.abs_end s T (j + 1) (by omega)
          omega
  · have := Lx.chain_head (habs 0)
    rw [List.drop_zero] at this
    have h0 := Lx.chain_head h
    omega
/-- no sign is a word, and no word a question mark -/
def Plainly (s : List UInt8) (T : List (Nat × Nat × Nat)) : Prop := ∀ t ∈ T, (t.1 = 7 → Tr.subT s t ≠ Tr.sTrue ∧ Tr.subT s t ≠ Tr.sFalse) ∧ (t.1 = 4 → Tr.subT s t ≠ [63])
theorem Lx.sign_le (l : List UInt8) : Lx.signM l ≤ 2 := by
  unfold Lx.signM
  split
  · omega
  · split
    · omega
    · split <;> omega
theorem Lx.one_plain (l : List UInt8) : ((Lx.oneM l).1 = 7 → (Lx.oneM l).2 ≤ 2) ∧ ((Lx.oneM l).1 = 4 → l.take (Lx.oneM l).2 ∈ Lx.words) := by
  unfold Lx.oneM
  split
  · exact ⟨by simp, by simp⟩
  split
  · exact ⟨by simp, by simp⟩
  split
  · split <;> exact ⟨by simp, by simp⟩
  split
  · refine ⟨?_, ?_⟩
    · dsimp only; split <;> intro h <;> omega
    · dsimp only
      split
      · rename_i h
        intro _
        unfold Lx.wordM at h
        simpa using h
      · intro h; omega
  split
  · refine ⟨?_, ?_⟩ <;> (dsimp only; split <;> intro h <;> omega)
  split
  · refine ⟨?_, ?_⟩ <;> (dsimp only; split <;> intro h <;> omega)
  split
  · exact ⟨fun _ => Lx.sign_le l, by simp⟩
  · exact ⟨by simp, by simp⟩
theorem Lx.plainly : ∀ (n a : Nat) (s : List UInt8), s.length - a ≤ n → Plainly s (Lx.tokR a (s.drop a))
  | 0, a, s, h => by
    have e : s.drop a = [] := List.drop_eq_nil_of_le (by omega)
    rw [e, Lx.tokR_nil]
    intro t ht; simp at ht
  | n + 1, a, s, h => by
    by_cases hne : s.drop a = []
    · rw [hne, Lx.tokR_nil]
      intro t ht; simp at ht
    · have h1 := Lx.one_le _ hne
      rw [Lx.tokR_cons a hne, List.drop_drop]
      rw [List.length_drop] at h1
      have ih := Lx.plainly n (a + (Lx.oneM (s.drop a)).2) s (by omega)
      intro t ht
      rcases List.mem_cons.1 ht with rfl | ht
      · obtain ⟨p7, p4⟩ := Lx.one_plain (s.drop a)
        unfold Tr.subT
        dsimp only
        refine ⟨fun h7 => ?_, fun h4 e => ?_⟩
        · have hl : ((s.drop a).take (Lx.oneM (s.drop a)).2).length ≤ 2 := by
            rw [List.length_take]
            have := p7 h7
            omega
          refine ⟨fun e => ?_, fun e => ?_⟩ <;> (rw [e] at hl; simp [Tr.sTrue, Tr.sFalse] at hl)
        · have := p4 h4
          rw [e] at this
          revert this
          decide
      · exact ih t ht
theorem Lx.tok_side (s : List UInt8) (hs : s.length ≤ 400000000) (hT : (Lx.tokR 0 s).length ≤ s.length) : Tr.Side s (Lx.tokR 0 s) ∧ Plainly s (Lx.tokR 0 s) := by
  have h1 := Lx.chain_tok s.length 0 s (Nat.le_refl _)
  rw [Nat.zero_add] at h1
  have h2 := Lx.plainly s.length 0 s (by omega)
  rw [List.drop_zero] at h2
  exact ⟨Lx.chain_side h1 (by omega), h2⟩
end Go.Proofs.YtgpjcjnimheglaaGreatDoor
/-
  THE WALK of the law LexTiles.
-/
namespace Go.Proofs.YtgpjcjnimheglaaGreatDoor
open Go.RowKit

theorem Rd.tk {w : World} {B : Nat} {A : Option Addr} {l : List Tk} {k : Nat} (h : Rd w B 3 A l.length (tksC l)) (hk : k < l.length) :
    ∃ b o, A = some ⟨b, o, none⟩ ∧ b < B ∧ w.cell? ⟨b, o + k * 3, none⟩ = some (.int .i64 l[k].1) ∧ w.cell? ⟨b, o + k * 3 + 1, none⟩ = some (.int .i64 l[k].2.1) ∧ w.cell? ⟨b, o + k * 3 + 2, none⟩ = some (.int .i64 l[k].2.2) := by
  obtain ⟨b, o, e, hb, hc⟩ := h.2 (by omega)
  refine ⟨b, o, e, hb, ?_, ?_, ?_⟩
  · have := hc (k * 3 + 0) _ (tksC_get l k 0 (by omega) hk); simpa [Nat.add_assoc] using this
  · have := hc (k * 3 + 1) _ (tksC_get l k 1 (by omega) hk); simpa [Nat.add_assoc] using this
  · have := hc (k * 3 + 2) _ (tksC_get l k 2 (by omega) hk); simpa [Nat.add_assoc] using this

theorem Lx.tokR_len : ∀ (n a : Nat) (l : List UInt8), l.length ≤ n → (Lx.tokR a l).length ≤ l.length
  | 0, a, l, h => by
    obtain rfl : l = [] := List.eq_nil_of_length_eq_zero (by omega)
    rw [Lx.tokR_nil]; exact Nat.le_refl _
  | n + 1, a, l, h => by
    by_cases hne : l = []
    · subst hne; rw [Lx.tokR_nil]; exact Nat.le_refl _
    · have h1 := Lx.one_le l hne
      rw [Lx.tokR_cons a hne, List.length_cons]
      have := Lx.tokR_len n (a + (Lx.oneM l).2) (l.drop (Lx.oneM l).2) (by rw [List.length_drop]; omega)
      rw [List.length_drop] at this
      omega

end Go.Proofs.YtgpjcjnimheglaaGreatDoor
/-
  WALKS of package tree: New.
-/
namespace Go.Proofs.YtgpjcjnimheglaaGreatDoor
open Go.RowKit

/-- a text's tree in memory, all its blocks of F -/
structure TreeOf (w : World) (F : Nat → Prop) (gt : Nat) (s : Bs) (T : List Tk) (ks : List Tr.Kd) (ts : List Tr.PT) : Prop where
  ex : ∃ d A c, TreeIs w F gt d A c T ks ts ∧ DocAt w d s T ∧ F d ∧ RowF w F A (tksC T) ∧ T.length ≤ c ∧ d ≠ gt
  at_ : F gt
theorem Aft.toBelow {w w' : World} {g : Nat} {B : Nat} (h : Aft (Old w) g w w') (hB : B ≤ w.heap.size) (hg : B ≤ g) : Below B w w' :=
  ⟨h.calm.os, h.calm.tape, h.calm.output, h.size, fun x hx => h.oth x (Nat.lt_of_lt_of_le hx hB) (by omega)⟩
set_option maxHeartbeats 4000000 in
set_option maxRecDepth 100000 in
theorem tnew_walk (s : Bs) (m : Int) (w : World) (hM : MaxL w m) (hT8 : T8 w) (hW : WordsIs w) (hl : s.length ≤ 1048576) :
    Calls Tryz.prog 18 #[.string ⟨s.toArray⟩] w fun e w' => ∃ gt, e = .returned (.pointer (some ⟨gt, 0, none⟩)) ∧ TreeOf w' (fun x => w.heap.size ≤ x) gt s (Lx.tokR 0 s) (Tr.kidsP s (Lx.tokR 0 s) ((Lx.tokR 0 s).length + 1) 0).1 (Tr.tailP s (Lx.tokR 0 s) (Tr.kidsP s (Lx.tokR 0 s) ((Lx.tokR 0 s).length + 1) 0).2) ∧ Below w.heap.size w w' := by
  have hnew := lnew_walk s m w hM hT8 hW (by omega)
  have hTl := Lx.tokR_len s.length 0 s (Nat.le_refl _)
  obtain ⟨hS, -⟩ := Lx.tok_side s (by omega) hTl
  generalize Lx.tokR 0 s = T at *
  have X : Txts s T := ⟨hS.good, by omega, by omega⟩
  have HTl : Hid (T.length ≤ 1048576) := by show _ ≤ _; omega
  clear hS hTl hM hT8 hW hl
  go_enter Tryz.func18, Tryz.ntmps18
  go_wp2_with fail
  refine hnew.mono ?_
  clear hnew
  rintro e w1 ⟨d, rfl, hd, hD, hb1⟩
  have hd2 : Below w1.heap.size w1 (w1.alloc (.cells #[.pointer (some ⟨d, 0, none⟩), .slice none 0 0, .slice none 0 0, .slice none 0 0] 92)) := (Below.refl _ _).alloc (Nat.le_refl _) _
  have hB : Blk (w1.alloc (.cells #[.pointer (some ⟨d, 0, none⟩), .slice none 0 0, .slice none 0 0, .slice none 0 0] 92)) w1.heap.size 92 #[.pointer (some ⟨d, 0, none⟩), .slice none 0 0, .slice none 0 0, .slice none 0 0] := Blk.new _ _ _
  have hD2 := hD.below hd2
  obtain ⟨gt, hgt⟩ : ∃ g, g = w1.heap.size := ⟨_, rfl⟩
  rw [← hgt] at hB
  have hdl : d < gt := by obtain ⟨_, _, h, _⟩ := hD; rw [hgt]; exact h.lt
  have Hgt := Lib.hid hgt
  go_upto_region 2 with fail
  rw [← hgt]
  clear hgt
  generalize w1.alloc (.cells #[.pointer (some ⟨d, 0, none⟩), .slice none 0 0, .slice none 0 0, .slice none 0 0] 92) = w2 at *
  have htk := ltokens_walk d s T w2 hD2 (by have := HTl.out; omega)
  have z0 := hB.cell 0
  simp at z0
  go_wp2_with fail
  refine htk.mono ?_
  clear htk
  rintro e w3 ⟨A, rfl, ⟨c0, hown⟩, hd3⟩
  have hB3 := hB.below hd3 hB.lt
  have z1 := hB3.cell 1
  have y1 := hB3.frozen 1
  simp at z1
  have hB4 := hB3.set_ 1 (.slice A T.length T.length)
  simp at hB4
  have hrow : RowF w3 (fun x => w2.heap.size ≤ x) A (tksC T) := (own_row hown fun q hq => (hown.lt q hq).1).2
  have hgl := hB.lt
  go_upto_region 3 with fail
  have hz4 : w3.heap.size ≤ (w3.setCell ⟨gt, 1, none⟩ (.slice A T.length T.length)).heap.size := by simp [World.setCell]
  have hrow4 : RowF (w3.setCell ⟨gt, 1, none⟩ (.slice A T.length T.length)) (fun x => w2.heap.size ≤ x) A (tksC T) := hrow.keep hz4 fun x hx _ => ⟨Below.heap_setCell _ ⟨gt, 1, none⟩ _ x (by have hx : w2.heap.size ≤ x := hx; show x ≠ gt; omega), hx⟩
  have hb4 : Below gt w1 (w3.setCell ⟨gt, 1, none⟩ (.slice A T.length T.length)) := (((by have := hd2; rwa [← Hgt.out] at this) : Below gt w1 w2).trans (hd3.mono (Nat.le_of_lt hgl))).setCell (p := ⟨gt, 1, none⟩) (Nat.le_refl _) _
  clear z0 z1 y1 hB hB3 hown hrow hd3 hD2 hd2
  generalize w3.setCell ⟨gt, 1, none⟩ (.slice A T.length T.length) = w4 at *
  have hD4 := hD.below (by have := hb4; rwa [Hgt.out] at this)
  obtain ⟨A1, c1, hB1, _⟩ := id hD4
  have hrd := read_nil X hB4 hB1 (hrow4.keep (F' := fun x => x ≠ gt) (Nat.le_refl _) fun x hx _ => ⟨rfl, (by have hx : w2.heap.size ≤ x := hx; show x ≠ gt; omega)⟩) (Nat.le_refl _)
  go_wp2_with fail
  refine hrd.mono ?_
  clear hrd
  rintro e w5 ⟨n, rfl, hA, hTr⟩
  go_wp2_with fail
  go_ret
  have hbz := hb1.size
  have hgt1 := Hgt.out
  have hz2 := hb4.size
  have hb5 : Below gt w1 w5 := hb4.trans (hA.toBelow (by omega) (Nat.le_refl _))
  have hD5 := hD.below (by rwa [hgt1] at hb5)
  refine ⟨gt, rfl, ⟨⟨d, A, T.length, ?_, hD5, hd, ?_, Nat.le_refl _, by omega⟩, by show _ ≤ _; omega⟩, hb1.trans (hb5.mono (by omega))⟩
  · obtain ⟨Av, cv, At, ct, vs, us, h1, h2, h3, h4, h5, h6, h7⟩ := hTr.ex
    exact ⟨Av, cv, At, ct, vs, us, h1, h2, h3, h4.keep (Nat.le_refl _) (fun x hx _ => ⟨rfl, by have hx : w4.heap.size ≤ x := hx; show _ ≤ _; omega⟩), KdsF.keep (Nat.le_refl _) (fun x hx _ => ⟨rfl, by have hx : w4.heap.size ≤ x := hx; show _ ≤ _; omega⟩) _ _ h5, h6.keep (Nat.le_refl _) (fun x hx _ => ⟨rfl, by have hx : w4.heap.size ≤ x := hx; show _ ≤ _; omega⟩), PtsF.keep (Nat.le_refl _) (fun x hx _ => ⟨rfl, by have hx : w4.heap.size ≤ x := hx; show _ ≤ _; omega⟩) _ _ h7⟩
  · exact hrow4.keep hA.size fun x hx hl => ⟨hA.oth x hl (by have hx : w2.heap.size ≤ x := hx; omega), by have hx : w2.heap.size ≤ x := hx; show _ ≤ _; omega⟩
end Go.Proofs.YtgpjcjnimheglaaGreatDoor
