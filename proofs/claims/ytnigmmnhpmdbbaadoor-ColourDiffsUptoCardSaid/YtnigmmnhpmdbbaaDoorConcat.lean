/-
  THE WALKS of slices.Grow (the shelf's contract, laid by hand), Concat, at []api.Colour; colour.Patch.
-/
import Derived.Test.YtnigmmnhpmdbbaaDoorClone
import Derived.Shelf.Spec.SlicesGrow
import Derived.Deep.Slices
import Derived.Deep.RegionHeld3
import Derived.StillTailTactics
namespace Go.Proofs
open Go.Shelf
def Tryd.growC_ren : Go.Shelf.Ren := ⟨fun | 4 => 11 | n => n, fun | 0 => 0 | 3 => 3 | 4 => 4 | 9 => 9 | 20 => 20 | 22 => 22 | 25 => 26 | n => n, fun n => n⟩
theorem Tryd.growC : Lays8.n4 Tryd.prog Tryd.growC_ren := {
  mixed := by kernel_rfl
  f4 := ⟨ "slices.Grow[[]amanuensis/api.Colour,amanuensis/api.Colour]", by decide, Tryd.func11.trans (congrArg some (by kernel_rfl))⟩
  t0 := Tryd.underlying0
  a0 := Tryd.isAgg0
  z0 := Tryd.sizeOf0
  v0 := Tryd.zeroValue0
  t3 := Tryd.underlying3
  a3 := Tryd.isAgg3
  z3 := Tryd.sizeOf3
  v3 := Tryd.zeroValue3
  t4 := Tryd.underlying4
  a4 := Tryd.isAgg4
  z4 := Tryd.sizeOf4
  v4 := Tryd.zeroValue4
  t9 := Tryd.underlying9
  a9 := Tryd.isAgg9
  z9 := Tryd.sizeOf9
  v9 := Tryd.zeroValue9
  t20 := Tryd.underlying20
  a20 := Tryd.isAgg20
  z20 := Tryd.sizeOf20
  v20 := Tryd.zeroValue20
  t22 := Tryd.underlying22
  a22 := Tryd.isAgg22
  z22 := Tryd.sizeOf22
  v22 := Tryd.zeroValue22 }
end Go.Proofs
namespace Go.Proofs.YtnigmmnhpmdbbaaDoor
open Go.RowKit

theorem grow_walk (n : Nat) (w : World) (hn : n ≤ 4194304) :
    Calls Tryd.prog 11 #[.slice none 0 0, .int .i64 n] w fun e w' => ∃ v, e = .returned v ∧ w'.ownsRow w.heap.size 26 4 v 0 [] ∧ Below w.heap.size w w' := by
  obtain ⟨i0, ji, jz0, jz1, jz2⟩ := info_parts infoCo
  rcases Nat.eq_zero_or_pos n with h0 | h0
  · subst h0
    refine (Any8.slices_Grow_room Tryd.growC none 0 0 0 w (Nat.le_refl _) (by omega) (by omega) (by omega)).mono ?_
    rintro e w' ⟨rfl, rfl⟩
    exact ⟨_, rfl, World.ownsRow_nil _ _ _ _, Below.refl _ _⟩
  · refine (Any8.slices_Grow_grow Tryd.growC i0 _ ji jz0 (by omega) none 0 0 n [] w (Nat.le_refl _) (by omega) (by rw [jz2]; omega) (by omega) (by simp) (fun _ => rfl) (fun a h => by cases h)).mono ?_
    rintro e w' ⟨rfl, rfl⟩
    have hge := grownCap_ge w (0 + n) 0 26
    have hle := grownCap_le_maxLen w (0 + n) 0 26 (by unfold maxLen; omega)
    refine ⟨_, rfl, ?_, ((Below.refl _ _).drew).alloc (Nat.le_refl _) _⟩
    have := World.ownsRow_made (base := w.heap.size) (e := 26) (size := 4) w.drew (#[] ++ Builtin.zeroCells (Value.agg #[.int .i64 0, .int .i64 0, .int .i64 0, .int .i64 0]).cells (0 + n - 0) ++ Builtin.zeroCells (Value.agg #[.int .i64 0, .int .i64 0, .int .i64 0, .int .i64 0]).cells (grownCap w (0 + n) 0 26 - (0 + n))) (grownCap w (0 + n) 0 26) (Nat.le_refl _) hle (by
      rw [Array.size_append, Array.size_append, size_zeroCells, size_zeroCells]
      show 0 + (0 + n - 0) * 4 + (grownCap w (0 + n) 0 26 - (0 + n)) * 4 = _
      omega)
    exact this

structure SV where
  A : Option Addr
  c : Nat
  l : List Co
def SV.val (x : SV) : Value := .slice x.A x.l.length x.c
def allCo (ss : List SV) : List Co := ss.flatMap SV.l
theorem allCo_snoc (ss : List SV) (x : SV) : allCo (ss ++ [x]) = allCo ss ++ x.l := by simp [allCo]
theorem allCo_take (ss : List SV) (k : Nat) : (allCo (ss.take k)).length ≤ (allCo ss).length := by
  have : allCo ss = allCo (ss.take k) ++ allCo (ss.drop k) := by
    unfold allCo
    rw [← List.flatMap_append, List.take_append_drop]
  rw [this, List.length_append]; omega

set_option maxHeartbeats 1000000 in
set_option maxRecDepth 100000 in
theorem concat_walk (B cp : Nat) (ss : List SV) (w : World) (hB : B < w.heap.size) (hc : ∀ i (h : i < ss.length), w.cell? ⟨B, i, none⟩ = some ss[i].val) (hco : ∀ x ∈ ss, CoAt w x.A x.l ∧ (x.A = none → x.c = 0)) (hl : (allCo ss).length ≤ 4194304) (hn : ss.length ≤ 16) :
    Calls Tryd.prog 9 #[.slice (some ⟨B, 0, none⟩) ss.length cp] w fun e w' => ∃ v, e = .returned v ∧ w'.ownsRow w.heap.size 26 4 v (allCo ss).length (coCells (allCo ss)) ∧ Below w.heap.size w w' := by
  obtain ⟨i0, ji, jz0, jz1, jz2⟩ := info_parts infoCo
  have Hc := Lib.hid hc
  have Hco := Lib.hid hco
  clear hc hco
  go_enter Tryd.func9, Tryd.ntmps9
  go_wp2_with fail
  go_loop [3, 11] (fun sz i => ∃ k : Nat, i = .int .i64 k ∧ k ≤ ss.length ∧ sz = .int .i64 (allCo (ss.take k)).length) (fun _ i => ss.length - (intOf i).toNat)
  case atStart => exact ⟨0, rfl, Nat.zero_le _, rfl⟩
  case round =>
    obtain ⟨k, rfl, hk, rfl⟩ := hrel
    have hle := allCo_take ss k
    by_cases hlt : k < ss.length
    · have c0 := Hc.out k hlt
      have Hs : Hid (allCo (ss.take (k + 1)) = allCo (ss.take k) ++ ss[k].l) := by show _ = _; rw [List.take_succ_eq_append_getElem hlt, allCo_snoc]
      have hle2 := allCo_take ss (k + 1)
      rw [Hs.out, List.length_append] at hle2
      unfold SV.val at c0
      generalize ss[k] = x at *
      generalize allCo (ss.take k) = acc at *
      have i1 : (0 : Int) ≤ (k : Int) := by omega
      have i2 : (k : Int) < (ss.length : Int) := by omega
      go_wp2_with fail
      go_round
      case rel => exact ⟨k + 1, by go_num, by omega, by rw [Hs.out, List.length_append]; go_num⟩
      case measure => simp [intOf]; omega
    · obtain rfl : k = ss.length := by omega
      rw [List.take_length]
      go_wp2_with fail
      refine (grow_walk (allCo ss).length _ hl).mono ?_
      rintro e w1 ⟨v1, rfl, hown1, hb1⟩
      go_wp2_with fail
      go_loopw [6, 27] (fun v i wr => ∃ k : Nat, i = .int .i64 k ∧ k ≤ ss.length ∧ wr.ownsRow w.heap.size 26 4 v (allCo (ss.take k)).length (coCells (allCo (ss.take k))) ∧ Below w.heap.size w wr) (fun _ i _ => ss.length - (intOf i).toNat)
      case atStart => exact ⟨0, rfl, Nat.zero_le _, hown1, hb1⟩
      case round =>
        rename_i wr _
        clear hown1 hb1
        obtain ⟨k, rfl, hk, hown, hb⟩ := hrel
        have hbs := hb.size
        have hle := allCo_take ss k
        by_cases hlt : k < ss.length
        · have c0 := (hb.cell (p := ⟨B, k, none⟩) hB).trans (Hc.out k hlt)
          obtain ⟨ca, cn⟩ := Hco.out ss[k] (List.getElem_mem hlt)
          have Hs : Hid (allCo (ss.take (k + 1)) = allCo (ss.take k) ++ ss[k].l) := by show _ = _; rw [List.take_succ_eq_append_getElem hlt, allCo_snoc]
          have hle2 := allCo_take ss (k + 1)
          rw [Hs.out, List.length_append] at hle2
          unfold SV.val at c0
          generalize ss[k] = x at *
          generalize allCo (ss.take k) = acc at *
          obtain ⟨A, c, l⟩ := x
          simp only at c0 ca cn hle2
          have i1 : (0 : Int) ≤ (k : Int) := by omega
          have i2 : (k : Int) < (ss.length : Int) := by omega
          cases A with
          | none =>
            have hl0 := ca.1 rfl
            have hc0 := cn rfl
            subst hl0 hc0
            go_wp2_with (at_builtin; refine wpList_append_own_none rfl _ _ 22 rfl w.heap.size 26 i0 4 Tryd.underlying22 ji _ acc.length _ rfl hown rfl ?_)
            go_roundw
            case rel => exact ⟨k + 1, by go_num, by omega, by rw [Hs.out]; simpa using hown, hb⟩
            case measure => simp [intOf]; omega
          | some ad =>
            have ca2 := (ca.below hb).2 ad rfl
            have Hca := Lib.hid ca2
            clear ca ca2 cn
            go_wp2_with (at_builtin; refine wpList_append_own _ rfl _ _ 22 rfl w.heap.size 26 i0 _ 4 32 Tryd.underlying22 ji jz0 jz1 jz2 rfl (by omega) _ acc.length _ rfl hown ad l.length c (coCells l) rfl (coCells_len l) Hca.out (coCells_one l) (by unfold maxLen; omega) (by omega) hbs ?_; intro v' w4 hown4 hgrow _)
            go_roundw
            case rel => exact ⟨k + 1, by go_num, by omega, by rw [Hs.out, List.length_append, coCells_app]; exact hown4, hb.grown hgrow hbs fun g hg => (hown.lt g hg).1⟩
            case measure => simp [intOf]; omega
        · obtain rfl : k = ss.length := by omega
          rw [List.take_length] at hown
          go_wp2_with fail
          go_ret
          exact ⟨_, rfl, hown, hb⟩
end Go.Proofs.YtnigmmnhpmdbbaaDoor
