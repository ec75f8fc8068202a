/-
  THE WALKS of amanuensissame.Rules and amanuensisref7.Fault.
-/
import Derived.Test.YtnadldoebfmgmaaDoorR7Set
import Derived.Deep.DeepCutAuto
import Derived.Deep.RegionHeld3
namespace Go.Proofs.YtnadldoebfmgmaaDoor.q
open Go.RowKit

theorem infoR7 : (Tryd.prog.info? 83).map (fun i => (i.zero, i.size, i.bytes)) = some (some (.agg #[.int .i64 0, .int .i64 0, .int .i64 0, .int .i64 0]), 4, 32) := by kernel_rfl
theorem ruCells_snoc (l : List Ru) (r : Ru) : ruCells (l ++ [r]) = ruCells l ++ r.cells := by simp [ruCells]
def capR : Nat := 4398046510976
set_option maxHeartbeats 2000000 in
set_option maxRecDepth 100000 in
theorem rules_walk (A : Option Addr) (c : Nat) (l : List Ru) (w : World) (hr : Rd w w.heap.size 4 A l.length (ruCells l)) (hl : l.length ≤ capR) :
    Calls Tryd.prog 17 #[.slice A l.length c] w fun e w' => ∃ v, e = .returned v ∧ w'.ownsRow w.heap.size 83 4 v l.length (ruCells l) ∧ Below w.heap.size w w' := by
  obtain ⟨i0, ji, jz0, jz1, jz2⟩ := info_parts infoR7
  go_enter Tryd.func17, Tryd.ntmps17
  go_wp2
  go_loopw [3, 4] (fun v i wr => ∃ k : Nat, k ≤ l.length ∧ i = .int .i64 k ∧ wr.ownsRow w.heap.size 83 4 v k (ruCells (l.take k)) ∧ Below w.heap.size w wr) (fun _ i _ => l.length - (intOf i).toNat)
  case atStart => exact ⟨0, Nat.zero_le _, rfl, World.ownsRow_nil _ _ _ _, Below.refl _ _⟩
  case round =>
    obtain ⟨k, hk, rfl, hown, hb⟩ := hrel
    have hbs := hb.size
    obtain ⟨Av, cv, rfl⟩ := own_form hown
    by_cases hlt : k < l.length
    · obtain ⟨b, o, rfl, hbB, hcs⟩ := Rd_ru hr hlt
      obtain ⟨c0, c1, c2, c3⟩ := hcs k hlt
      clear hcs
      have e1 : ∀ j, wr.cell? ⟨b, j, none⟩ = w.cell? ⟨b, j, none⟩ := fun j => hb.cell (p := ⟨b, j, none⟩) hbB
      rw [← e1] at c0 c1 c2 c3
      clear e1
      have hbw : b < wr.heap.size := by omega
      have hne : some b ≠ (Value.slice Av k cv).ownBlock := fun e => by have := (hown.lt b e.symm).1; omega
      have Hcell : Hid (ruCells (l.take (k + 1)) = ruCells (l.take k) ++ [.int .i64 l[k].op, .int .i64 l[k].a, .int .i64 l[k].b, .int .i64 l[k].c]) := by
        show _ = _
        rw [List.take_succ_eq_append_getElem hlt, ruCells_snoc]; rfl
      generalize l[k] = x at *
      have i1 : (0 : Int) ≤ (k : Int) := by omega
      have i2 : (k : Int) < (l.length : Int) := by omega
      have hkc : (k : Int) + 1 ≤ 4398046510976 := by unfold capR at hl; omega
      have HL := Lib.hid hl
      clear hl
      go_wp2_with fail
      go_region_held3 (fun w' => w'.cell? ⟨b, o + k * 4, none⟩ = some (.int .i64 x.op) ∧ w'.cell? ⟨b, o + k * 4 + 1, none⟩ = some (.int .i64 x.a) ∧ w'.cell? ⟨b, o + k * 4 + 2, none⟩ = some (.int .i64 x.b) ∧ w'.cell? ⟨b, o + k * 4 + 3, none⟩ = some (.int .i64 x.c))
        (first
          | (go_keep; done)
          | exact ⟨(cell_alloc _ _ _ _ hbw).trans c0, (cell_alloc _ _ _ _ hbw).trans c1, (cell_alloc _ _ _ _ hbw).trans c2, (cell_alloc _ _ _ _ hbw).trans c3⟩
          | exact ⟨(hgrow.cell_far _ (by simp; omega) hne).trans ((cell_alloc _ _ _ _ hbw).trans c0), (hgrow.cell_far _ (by simp; omega) hne).trans ((cell_alloc _ _ _ _ hbw).trans c1), (hgrow.cell_far _ (by simp; omega) hne).trans ((cell_alloc _ _ _ _ hbw).trans c2), (hgrow.cell_far _ (by simp; omega) hne).trans ((cell_alloc _ _ _ _ hbw).trans c3)⟩)
        ((refine step_append_lies _ (by rfl) _ _ _ (by rfl) w.heap.size 83 i0 _ 4 32 Tryd.underlying48 ji jz0 jz1 jz2 rfl (by omega) (.slice Av k cv) k (ruCells (l.take k)) (by rfl) ((hown.alloc _).drew) ⟨wr.heap.size, 0, none⟩ 1 1 [.int .i64 x.op, .int .i64 x.a, .int .i64 x.b, .int .i64 x.c] (by rfl) (by rfl) (World.news_of_block (cs := #[.int .i64 x.op, .int .i64 x.a, .int .i64 x.b, .int .i64 x.c]) (t := 83) (fr := (0, 0)) (heap_alloc_new wr _)) (by simp [Value.oneCell']) (by omega) (by unfold maxLen; omega) (by omega) (by simp; omega) (wr.heap.size + 1) (by simp) ?_; intro gg cap' w3 hown3 hgrow hat hlt3))
      go_wp2_with fail
      go_roundw
      case rel => exact ⟨k + 1, by omega, by go_num, by rw [Hcell.out]; exact hown3, ((hb.alloc hbs _).drew).grown hgrow (by simp; omega) fun g hg => (hown.lt g hg).1⟩
      case measure => simp [intOf]; omega
    · obtain rfl : k = l.length := by omega
      rw [List.take_length] at hown
      go_wp2
      go_ret
      exact ⟨_, by simp, hown, hb⟩

/-- bad, as the reference has it -/
theorem bad_ref (n : Nat) (r : Ru) : r.bad n = (decide (looksR r.op < 0) || (decide (0 < looksR r.op) && outB n r.a) || (decide (1 < looksR r.op) && outB n r.b) || (decide (2 < looksR r.op) && outB n r.c)) := by
  have hc : r.op = 0 ∨ (r.op = 1 ∨ r.op = 2 ∨ r.op = 3) ∨ r.op = 4 ∨ r.op = 5 ∨ (r.op < 0 ∨ 5 < r.op) := by omega
  unfold Ru.bad Ru.looks looksL looksR
  rcases hc with h | h | h | h | h
  · simp [h]
  · have h0 : ¬ r.op = 0 := by omega
    have h1 : ¬ r.op < 0 := by omega
    have h2 : ¬ 5 < r.op := by omega
    simp [h, h0, h1, h2]
  · simp [h, Bool.or_assoc]
  · simp [h]
  · have h0 : ¬ r.op = 0 := by omega
    have h1 : ¬ (r.op = 1 ∨ r.op = 2 ∨ r.op = 3) := by omega
    have h2 : ¬ r.op = 4 := by omega
    have h3 : ¬ r.op = 5 := by omega
    rcases h with h | h <;> simp [h, h0, h1, h2, h3]
end Go.Proofs.YtnadldoebfmgmaaDoor.q
