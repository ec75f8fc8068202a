/-
  THE WALK of edit.Fault.
-/
import Derived.Test.YtffcfnnbdmihaaaDoorSpan
namespace Go.Proofs.YtffcfnnbdmihaaaDoor
open Go.RowKit

set_option maxRecDepth 100000 in
theorem fault_walk (n : Int) (A : Option Addr) (c : Nat) (l : List Sp) (w : World) (hr : Rd w w.heap.size 3 A l.length (spCells l)) (hl : l.length ≤ 1048576) :
    Calls Tryd.prog 28 #[.int .i64 n, .slice A l.length c] w fun e w' => e = .returned (errV (fault n l)) ∧ Below w.heap.size w w' := by
  by_cases hn : n < 0
  · have hfin : fault n l = 1 := by simp [fault, hn]
    rw [hfin]
    go_enter Tryd.func28, Tryd.ntmps28
    go_wp2
    go_ret
    exact ⟨rfl, Below.refl _ _⟩
  · have hn0 : 0 ≤ n := by omega
    go_enter Tryd.func28, Tryd.ntmps28
    go_wp2
    go_loopw [13] (fun i wr => ∃ k : Nat, k ≤ l.length ∧ i = .int .i64 k ∧ Below w.heap.size w wr ∧ Hid ((l.take k).any (Sp.bad n) = false)) (fun i _ => l.length - (intOf i).toNat)
    case atStart => exact ⟨0, Nat.zero_le _, rfl, Below.refl _ _, rfl⟩
    case round =>
      obtain ⟨k, hk, rfl, hb, Hno⟩ := hrel
      have hbs := hb.size
      by_cases hlt : k < l.length
      · obtain ⟨b, o, rfl, hbB, hcs⟩ := (hr.below hb).sp hlt
        obtain ⟨c0, c1, c2⟩ := hcs k hlt
        clear hcs
        have Hbad : Hid (l[k].bad n = true → fault n l = 1) := fun h => fault_bad hlt h
        have Hbd : Hid (l[k].bad n = (decide (l[k].f < 0) || decide (l[k].f > l[k].t) || decide (l[k].t > n))) := rfl
        have Hst : Hid (l[k].bad n = false → (l.take (k + 1)).any (Sp.bad n) = false) := fun h => take_any_snoc hlt Hno.out h
        generalize l[k] = x at *
        by_cases hf : x.f < 0
        · go_wp2
          go_ret
          exact ⟨by rw [Hbad.out (by rw [Hbd.out]; simp [hf])]; rfl, hb.alloc hbs _⟩
        by_cases ht : x.t < x.f
        · go_wp2
          go_ret
          exact ⟨by rw [Hbad.out (by rw [Hbd.out]; simp [ht])]; rfl, hb.alloc hbs _⟩
        by_cases hx : n < x.t
        · go_wp2
          go_ret
          exact ⟨by rw [Hbad.out (by rw [Hbd.out]; simp [hx])]; rfl, hb.alloc hbs _⟩
        go_wp2
        go_roundw
        case rel => exact ⟨k + 1, by omega, by go_num, hb.alloc hbs _, Hst.out (by rw [Hbd.out]; simp; omega)⟩
        case measure => simp [intOf]; omega
      · obtain rfl : k = l.length := by omega
        have Hno2 : Hid (l.any (Sp.bad n) = false) := by have := Hno.out; rwa [List.take_length] at this
        clear Hno
        go_wp2
        go_loopw [7] (fun i wr => ∃ k : Nat, k + 1 ≤ max 1 l.length ∧ i = .int .i64 (k + 1) ∧ Below w.heap.size w wr ∧ Hid (ordBad (l.take (k + 1)) = false)) (fun i _ => l.length - (intOf i).toNat)
        case atStart => exact ⟨0, by omega, rfl, hb, by cases l <;> rfl⟩
        case round =>
          rename_i wr2 _
          obtain ⟨k, hk, rfl, hb, Hno⟩ := hrel
          have hbs := hb.size
          by_cases hlt : k + 1 < l.length
          · obtain ⟨b, o, rfl, hbB, hcs⟩ := (hr.below hb).sp hlt
            obtain ⟨c0, c1, c2⟩ := hcs (k + 1) hlt
            obtain ⟨d0, d1, d2⟩ := hcs k (by omega)
            clear hcs c1 c2 d0 d2
            have Hy : Hid (l[k + 1].f < l[k].t → fault n l = 2) := fun h => fault_ord hn0 Hno2.out hlt h
            have Hz : Hid (¬ l[k + 1].f < l[k].t → ordBad (l.take (k + 1 + 1)) = false) := fun h => by rw [ordBad_take hlt, Hno.out]; simp; omega
            generalize l[k + 1] = y at *
            generalize l[k] = x at *
            have e1 : IntKind.i64.wrap ((k : Int) + 1 - 1) = k := by rw [IntWalk.i64_in _ (by omega)]; omega
            have e2 : ((k : Int) + 1).toNat = k + 1 := by omega
            have e3 : (k : Int) + 1 < (l.length : Int) := by omega
            have e4 : (0 : Int) ≤ (k : Int) + 1 := by omega
            have e5 : (k : Int) < (l.length : Int) := by omega
            have e6 : (0 : Int) ≤ (k : Int) := by omega
            go_wp2
            go_quiet (fail)
            by_cases hy : y.f < x.t
            · go_wp2
              go_ret
              exact ⟨by rw [Hy.out hy]; rfl, below_drewN hb _⟩
            · go_wp2
              go_roundw
              case rel => exact ⟨k + 1, by omega, by go_num, below_drewN hb _, Hz.out (by omega)⟩
              case measure => simp [intOf]; omega
          · go_wp2
            go_ret
            exact ⟨by rw [fault_none hn0 Hno2.out (by have := Hno.out; rwa [List.take_of_length_le (by omega)] at this)]; rfl, hb⟩
end Go.Proofs.YtffcfnnbdmihaaaDoor
