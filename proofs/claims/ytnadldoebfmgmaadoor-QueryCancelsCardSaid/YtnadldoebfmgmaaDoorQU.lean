/-
  THE WALK of (*query.Sheet).Runs.
-/
import Derived.Test.YtnadldoebfmgmaaDoorQT
import Derived.Deep.OwnRows
namespace Go.Proofs.YtnadldoebfmgmaaDoor.q
open Go.RowKit

def runsV (s : Sh) : Array Value := (s.cs.map fun c => Value.int .i64 c.runs).toArray
theorem infoIntQ : (Tryd.prog.info? 3).map (fun i => (i.zero, i.size, i.bytes)) = some (some (.int .i64 0), 1, 8) := by kernel_rfl
theorem madeQ_size (z : Value) (n : Nat) : (madeCells #[z] n).size = n := by
  rw [← Array.length_toList, toList_madeCells_one, List.length_replicate]
set_option maxHeartbeats 1000000 in
set_option maxRecDepth 100000 in
theorem Runs_walk {N : Nat → Prop} {w : World} {base sp rb rc : Nat} {lk : Int} {ps : List Nat} {vc : Value} {s : Sh} (hS : ShAt N w base sp lk ps vc rb rc s) (hsm : s.cs.length ≤ 1048576) :
    Calls Tryd.prog 15 #[.pointer (some ⟨sp, 0, none⟩)] w fun e w' => ∃ g, e = .returned (.slice (some ⟨g, 0, none⟩) ps.length ps.length) ∧ Blk w' g 3 (runsV s) ∧ w.heap.size ≤ g ∧ Below w.heap.size w w' := by
  have hlen := hS.len
  have hpsm : ps.length ≤ 1048576 := by omega
  obtain ⟨A, cap, rfl⟩ := vc_form hS
  have m2 := hS.sheet.cell 2
  simp at m2
  have hmk := run_make_row' (P := Tryd.prog) 23 3 (.int .i64 0) 8 Tryd.underlying23 infoIntQ rfl .i64 .i64 ps.length (by omega) (by omega)
  have Hlen := Lib.hid hlen
  have HS := Lib.hid hS
  clear hlen hS
  go_enter Tryd.func15, Tryd.ntmps15
  go_upto_region 2 with fail
  have hB := Blk.new w 3 (madeCells #[.int .i64 0] ps.length)
  have hb : Below w.heap.size w (w.alloc (.cells (madeCells #[.int .i64 0] ps.length) 3)) := (Below.refl _ _).alloc (Nat.le_refl _) _
  have hsz := madeQ_size (.int .i64 0) ps.length
  generalize madeCells #[Value.int .i64 0] ps.length = c0 at *
  clear hmk m2
  have m3 := (HS.out.below hb).sheet.cell 3
  simp at m3
  obtain ⟨g, hg⟩ : ∃ g, g = w.heap.size := ⟨_, rfl⟩
  rw [← hg] at hB hb ⊢
  generalize w.alloc (.cells c0 3) = w1 at *
  have Hg := Lib.hid hg
  have Hsz := Lib.hid hsz
  clear hg hsz
  have hcel : Hid (∀ k, k < ps.length → (s.cs.map fun c => Value.int .i64 c.runs)[k]? = some (.int .i64 (s.at k).runs)) := fun k hk => by
    have hk' : k < s.cs.length := by have := Hlen.out; omega
    have e2 : s.at k = s.cs[k] := by unfold Sh.at; rw [List.getD_eq_getElem?_getD, List.getElem?_eq_getElem hk']; rfl
    rw [List.getElem?_map, List.getElem?_eq_getElem hk', e2]; rfl
  go_wp2_with fail
  go_loopw [16] (fun i wr => ∃ k : Nat, ∃ c1, i = .int .i64 k ∧ k ≤ ps.length ∧ Blk wr g 3 c1 ∧ Below g w wr ∧ Hid (c1.size = ps.length ∧ ∀ j, j < k → c1[j]? = some (.int .i64 (s.at j).runs))) (fun i _ => ps.length - (intOf i).toNat)
  case atStart => exact ⟨0, c0, rfl, Nat.zero_le _, hB, hb, Hsz.out, fun j hj => by omega⟩
  case round =>
    clear hB hb m3
    obtain ⟨k, c1, rfl, hk, hB, hb, HI⟩ := hrel
    by_cases hlt : k < ps.length
    · have hSw : ShAt N wr base sp lk ps (.slice A ps.length cap) rb rc s := HS.out.below (by rw [← Hg.out]; exact hb)
      have m3 := hSw.sheet.cell 3
      simp at m3
      have cr : wr.cell? ⟨rb, k, none⟩ = some (.int .i64 (s.at k).runs) := own_cell hSw.runs k _ (hcel.out k hlt)
      have hck : k < c1.size := by rw [HI.out.1]; exact hlt
      have cg := hB.cell k
      rw [Array.getElem?_eq_getElem hck] at cg
      have fg := hB.frozen k
      have i1 : (0 : Int) ≤ (k : Int) := by omega
      have i2 : (k : Int) < (ps.length : Int) := by omega
      have i3 : decide (k < ps.length) = true := by simpa using hlt
      have HB2 : Hid (Blk (wr.setCell ⟨g, k, none⟩ (.int .i64 (s.at k).runs)) g 3 (c1.setIfInBounds k (.int .i64 (s.at k).runs)) ∧ Below g w (wr.setCell ⟨g, k, none⟩ (.int .i64 (s.at k).runs)) ∧ (c1.setIfInBounds k (.int .i64 (s.at k).runs)).size = ps.length ∧ ∀ j, j < k + 1 → (c1.setIfInBounds k (.int .i64 (s.at k).runs))[j]? = some (.int .i64 (s.at j).runs)) := by
        refine ⟨hB.set_ k _, hb.setCell (p := ⟨g, k, none⟩) (Nat.le_refl _) _, by rw [Array.size_setIfInBounds]; exact HI.out.1, fun j hj => ?_⟩
        rw [Array.getElem?_setIfInBounds]
        by_cases hkj : k = j
        · subst hkj; rw [if_pos rfl, if_pos hck]
        · rw [if_neg hkj]; exact HI.out.2 j (by omega)
      clear hSw hB hb HI
      go_wp2_with fail
      refine (load_walk ⟨rb, k, none⟩ _ _ cr).mono ?_
      rintro e w' ⟨rfl, rfl⟩
      go_wp2_with fail
      obtain ⟨b1, b2, b3⟩ := HB2.out
      go_roundw
      case rel => exact ⟨k + 1, _, by go_num, by omega, b1, b2, b3⟩
      case measure => simp [intOf]; omega
    · have hke : k = ps.length := by omega
      have hB2 : Blk wr g 3 (runsV s) := by
        have e : c1 = runsV s := by
          apply Array.ext'
          apply List.ext_getElem?
          intro j
          show _ = (s.cs.map fun c => Value.int .i64 c.runs)[j]?
          rw [Array.getElem?_toList]
          by_cases hj : j < ps.length
          · rw [hcel.out j hj]; exact HI.out.2 j (by omega)
          · rw [List.getElem?_eq_none (by simp; have := Hlen.out; omega), Array.getElem?_eq_none (by rw [HI.out.1]; omega)]
        rw [← e]; exact hB
      have i3 : decide (k < ps.length) = false := by simpa using hlt
      have HB2 := Lib.hid hB2
      clear hke hB hB2 HI
      go_wp2_with fail
      go_ret
      exact ⟨g, rfl, HB2.out, by rw [Hg.out]; exact Nat.le_refl _, by rw [← Hg.out]; exact hb⟩
end Go.Proofs.YtnadldoebfmgmaaDoor.q
