/-
  THE WALKS of amanuensissame.Spans and amanuensisref1.Fault.
-/
import Derived.Test.YtffcfnnbdmihaaaDoorSpan
import Derived.Deep.RegionHeld3
import Derived.Deep.DeepCutAuto
namespace Go.Proofs.YtffcfnnbdmihaaaDoor
open Go.RowKit

theorem infoP : (Tryd.prog.info? 101).map (fun i => (i.zero, i.size, i.bytes)) = some (some (.agg #[.int .i64 0, .int .i64 0, .string ⟨#[]⟩]), 3, 32) := by kernel_rfl

set_option maxHeartbeats 1000000 in
set_option maxRecDepth 100000 in
theorem spans_walk (A : Option Addr) (c : Nat) (l : List Sp) (w : World) (hr : Rd w w.heap.size 3 A l.length (spCells l)) (hl : l.length ≤ 1048576) :
    Calls Tryd.prog 20 #[.slice A l.length c] w fun e w' => ∃ v, e = .returned v ∧ w'.ownsRow w.heap.size 101 3 v l.length (spCells l) ∧ Below w.heap.size w w' := by
  obtain ⟨i0, ji, jz0, jz1, jz2⟩ := info_parts infoP
  go_enter Tryd.func20, Tryd.ntmps20
  go_wp2
  go_loopw [3, 4] (fun v i wr => ∃ k : Nat, k ≤ l.length ∧ i = .int .i64 k ∧ wr.ownsRow w.heap.size 101 3 v k (spCells (l.take k)) ∧ Below w.heap.size w wr) (fun _ i _ => l.length - (intOf i).toNat)
  case atStart => exact ⟨0, Nat.zero_le _, rfl, World.ownsRow_nil _ _ _ _, Below.refl _ _⟩
  case round =>
    obtain ⟨k, hk, rfl, hown, hb⟩ := hrel
    have hbs := hb.size
    obtain ⟨Av, cv, rfl⟩ := own_form hown
    by_cases hlt : k < l.length
    · obtain ⟨b, o, rfl, hbB, hcs⟩ := hr.sp hlt
      obtain ⟨c0, c1, c2⟩ := hcs k hlt
      clear hcs
      have e1 : ∀ j, wr.cell? ⟨b, j, none⟩ = w.cell? ⟨b, j, none⟩ := fun j => hb.cell (p := ⟨b, j, none⟩) hbB
      rw [← e1] at c0 c1 c2
      clear e1
      have hbw : b < wr.heap.size := by omega
      have hne : some b ≠ (Value.slice Av k cv).ownBlock := fun e => by have := (hown.lt b e.symm).1; omega
      have Hcell : Hid (spCells (l.take (k + 1)) = spCells (l.take k) ++ [.int .i64 l[k].f, .int .i64 l[k].t, .string l[k].s]) := by
        show _ = _
        rw [List.take_succ_eq_append_getElem hlt, spCells_snoc]
      generalize l[k] = x at *
      have i1 : (0 : Int) ≤ (k : Int) := by omega
      have i2 : (k : Int) < (l.length : Int) := by omega
      go_wp2_with fail
      go_region_held3 (fun w' => w'.cell? ⟨b, o + k * 3, none⟩ = some (.int .i64 x.f) ∧ w'.cell? ⟨b, o + k * 3 + 1, none⟩ = some (.int .i64 x.t) ∧ w'.cell? ⟨b, o + k * 3 + 2, none⟩ = some (.string x.s))
        (first
          | (go_keep; done)
          | exact ⟨(cell_alloc _ _ _ _ hbw).trans c0, (cell_alloc _ _ _ _ hbw).trans c1, (cell_alloc _ _ _ _ hbw).trans c2⟩
          | exact ⟨(hgrow.cell_far _ (by simp; omega) hne).trans ((cell_alloc _ _ _ _ hbw).trans c0), (hgrow.cell_far _ (by simp; omega) hne).trans ((cell_alloc _ _ _ _ hbw).trans c1), (hgrow.cell_far _ (by simp; omega) hne).trans ((cell_alloc _ _ _ _ hbw).trans c2)⟩)
        ((refine step_append_lies _ (by rfl) _ _ _ (by rfl) w.heap.size 101 i0 _ 3 32 Tryd.underlying42 ji jz0 jz1 jz2 rfl (by omega) (.slice Av k cv) k (spCells (l.take k)) (by rfl) ((hown.alloc _).drew) ⟨wr.heap.size, 0, none⟩ 1 1 [.int .i64 x.f, .int .i64 x.t, .string x.s] (by rfl) (by rfl) (World.news_of_block (cs := #[.int .i64 x.f, .int .i64 x.t, .string x.s]) (t := 101) (fr := (0, 0)) (heap_alloc_new wr _)) (by simp [Value.oneCell']) (by omega) (by unfold maxLen; omega) (by omega) (by simp; omega) (wr.heap.size + 1) (by simp) ?_; intro gg cap' w3 hown3 hgrow hat hlt3))
      go_wp2_with fail
      go_roundw
      case rel => exact ⟨k + 1, by omega, by go_num, by rw [Hcell.out]; exact hown3, ((hb.alloc hbs _).drew).grown hgrow (by simp; omega) fun g hg => (hown.lt g hg).1⟩
      case measure => simp [intOf]; omega
    · obtain rfl : k = l.length := by omega
      rw [List.take_length] at hown
      go_wp2
      go_ret
      exact ⟨_, by simp, hown, hb⟩

set_option maxHeartbeats 1000000 in
set_option maxRecDepth 100000 in
theorem rfault_walk (n : Int) (A : Option Addr) (c : Nat) (l : List Sp) (w : World) (hr : Rd w w.heap.size 3 A l.length (spCells l)) (hl : l.length ≤ 1048576) :
    Calls Tryd.prog 29 #[.int .i64 n, .slice A l.length c] w fun e w' => e = .returned (.int .i64 (fault n l)) ∧ Below w.heap.size w w' := by
  by_cases hn : n < 0
  · have hfin : fault n l = 1 := by simp [fault, hn]
    rw [hfin]
    go_enter Tryd.func29, Tryd.ntmps29
    go_wp2
    go_ret
    exact ⟨rfl, Below.refl _ _⟩
  · have hn0 : 0 ≤ n := by omega
    go_enter Tryd.func29, Tryd.ntmps29
    go_wp2
    go_loopw [5] (fun i wr => ∃ k : Nat, k ≤ l.length ∧ i = .int .i64 k ∧ Below w.heap.size w wr ∧ Hid ((l.take k).any (Sp.bad n) = false)) (fun i _ => l.length - (intOf i).toNat)
    case atStart => exact ⟨0, Nat.zero_le _, rfl, Below.refl _ _, rfl⟩
    case round =>
      obtain ⟨k, hk, rfl, hb, Hno⟩ := hrel
      have hbs := hb.size
      by_cases hlt : k < l.length
      · obtain ⟨b, o, rfl, hbB, hcs⟩ := (hr.below hb).sp hlt
        obtain ⟨c0, c1, c2⟩ := hcs k hlt
        clear hcs
        have Hbad : Hid (l[k].bad n = true → fault n l = 1) := fun h => fault_bad hlt h
        have Hbd : Hid (l[k].bad n = (decide (l[k].f < 0) || decide (l[k].f > l[k].t) || decide (l[k].t > n))) := rfl
        have Hst : Hid (l[k].bad n = false → (l.take (k + 1)).any (Sp.bad n) = false) := fun h => take_any_snoc hlt Hno.out h
        generalize l[k] = x at *
        have i1 : (0 : Int) ≤ (k : Int) := by omega
        have i2 : (k : Int) < (l.length : Int) := by omega
        by_cases hf : x.f < 0
        · go_wp2
          go_quiet (fail)
          go_wp2
          go_ret
          exact ⟨by rw [Hbad.out (by rw [Hbd.out]; simp [hf])]; rfl, below_drewN hb _⟩
        by_cases ht : x.t < x.f
        · have d1 : decide (x.f < 0) = false := by simp; omega
          go_wp2
          go_quiet (fail)
          go_wp2
          go_ret
          exact ⟨by rw [Hbad.out (by rw [Hbd.out]; simp [ht])]; rfl, below_drewN hb _⟩
        by_cases hx : n < x.t
        · have d1 : decide (x.f < 0) = false := by simp; omega
          have d2 : decide (x.t < x.f) = false := by simp; omega
          go_wp2
          go_quiet (fail)
          go_wp2
          go_ret
          exact ⟨by rw [Hbad.out (by rw [Hbd.out]; simp [hx])]; rfl, below_drewN hb _⟩
        have d1 : decide (x.f < 0) = false := by simp; omega
        have d2 : decide (x.t < x.f) = false := by simp; omega
        have d3 : decide (n < x.t) = false := by simp; omega
        go_wp2
        go_quiet (fail)
        go_wp2
        go_roundw
        case rel => exact ⟨k + 1, by omega, by go_num, below_drewN hb _, Hst.out (by rw [Hbd.out]; simp; omega)⟩
        case measure => simp [intOf]; omega
      · obtain rfl : k = l.length := by omega
        have Hno2 : Hid (l.any (Sp.bad n) = false) := by have := Hno.out; rwa [List.take_length] at this
        clear Hno
        go_wp2
        go_loopw [6] (fun i wr => ∃ k : Nat, k + 1 ≤ max 1 l.length ∧ i = .int .i64 (k + 1) ∧ Below w.heap.size w wr ∧ Hid (ordBad (l.take (k + 1)) = false)) (fun i _ => l.length - (intOf i).toNat)
        case atStart => exact ⟨0, by omega, rfl, hb, by cases l <;> rfl⟩
        case round =>
          rename_i wr2 _
          obtain ⟨k, hk, rfl, hb, Hno⟩ := hrel
          have hbs := hb.size
          by_cases hlt : k + 1 < l.length
          · obtain ⟨b, o, rfl, hbB, hcs⟩ := (hr.below hb).sp hlt
            obtain ⟨c0, c1, c2⟩ := hcs (k + 1) hlt
            obtain ⟨d0, d1, d2⟩ := hcs k (by omega)
            clear hcs c1 c2 d0 d2
            have Hy : Hid (l[k + 1].f < l[k].t → fault n l = 2) := fun h => fault_ord hn0 Hno2.out hlt h
            have Hz : Hid (¬ l[k + 1].f < l[k].t → ordBad (l.take (k + 1 + 1)) = false) := fun h => by rw [ordBad_take hlt, Hno.out]; simp; omega
            generalize l[k + 1] = y at *
            generalize l[k] = x at *
            have e1 : IntKind.i64.wrap ((k : Int) + 1 - 1) = k := by rw [IntWalk.i64_in _ (by omega)]; omega
            have e2 : ((k : Int) + 1).toNat = k + 1 := by omega
            have e3 : (k : Int) + 1 < (l.length : Int) := by omega
            have e4 : (0 : Int) ≤ (k : Int) + 1 := by omega
            have e5 : (k : Int) < (l.length : Int) := by omega
            have e6 : (0 : Int) ≤ (k : Int) := by omega
            go_wp2
            go_quiet (fail)
            by_cases hy : y.f < x.t
            · go_wp2
              go_ret
              exact ⟨by rw [Hy.out hy]; rfl, below_drewN hb _⟩
            · go_wp2
              go_roundw
              case rel => exact ⟨k + 1, by omega, by go_num, below_drewN hb _, Hz.out (by omega)⟩
              case measure => simp [intOf]; omega
          · go_wp2
            go_ret
            exact ⟨by rw [fault_none hn0 Hno2.out (by have := Hno.out; rwa [List.take_of_length_le (by omega)] at this)]; rfl, hb⟩
end Go.Proofs.YtffcfnnbdmihaaaDoor
