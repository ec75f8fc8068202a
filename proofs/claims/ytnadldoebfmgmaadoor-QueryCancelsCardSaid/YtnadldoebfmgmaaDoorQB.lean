/-
  THE WALK of (*query.Sheet).bring: a cell is brought up to date.
-/
import Derived.Test.YtnadldoebfmgmaaDoorQR
namespace Go.Proofs.YtnadldoebfmgmaaDoor.q
open Go.RowKit

theorem bring_out {w : World} {g : Nat} {n e : Int} {tmps : Array Value} (h4 : tmps.getD 4 undef = .pointer (some ⟨g, 0, none⟩)) (hB : Blk w g 68 #[.int .i64 n, .int .i64 e]) :
    (results Tryd.f34 tmps).run Tryd.prog w = .ok (.agg #[.int .i64 n, .int .i64 e]) w :=
  results_cell_row (hu := Tryd.underlying68) (h := rfl) (tmps := tmps) (w := w) (g := g) (hp := h4) (hg := hB) (hd := rfl) (hi := by kernel_rfl)
/-- the sheet stays as it is -/
theorem bring_stay {N : Nat → Prop} {w w3 : World} {base sp rb rc : Nat} {lk : Int} {ps : List Nat} {vc : Value} {s : Sh} (hS : ShAt N w base sp lk ps vc rb rc s) (hN : ∀ j, N j → j < w.heap.size) (hz : base ≤ w.heap.size) (hb : Below w.heap.size w w3) :
    ShAt N w3 base sp lk ps vc rb rc s ∧ KeepN N w w3 ∧ Below base w w3 ∧ Held ps.length ps s w w3 ∧ Below w.heap.size w w3 := ⟨hS.below hb, KeepN.below hN hb, hb.mono hz, Held.of_below hS hb, hb⟩
theorem bring_box {w w2 : World} (h : Below w.heap.size w w2) (hB : Blk w2 w.heap.size 68 #[.int .i64 0, .int .i64 0]) (q : Nat) (n e : Int) :
    Blk (((w2.drewN q).setCell ⟨w.heap.size, 0, none⟩ (.int .i64 n)).setCell ⟨w.heap.size, 1, none⟩ (.int .i64 e)) w.heap.size 68 #[.int .i64 n, .int .i64 e] ∧
    Below w.heap.size w (((w2.drewN q).setCell ⟨w.heap.size, 0, none⟩ (.int .i64 n)).setCell ⟨w.heap.size, 1, none⟩ (.int .i64 e)) := by
  have h1 : Blk (w2.drewN q) w.heap.size 68 #[.int .i64 0, .int .i64 0] := hB
  refine ⟨(h1.set_ 0 (.int .i64 n)).set_ 1 (.int .i64 e), ((below_drewN h q).setCell (p := ⟨w.heap.size, 0, none⟩) (Nat.le_refl _) _).setCell (p := ⟨w.heap.size, 1, none⟩) (Nat.le_refl _) _⟩

set_option maxHeartbeats 4000000 in
set_option maxRecDepth 100000 in
/-- what needs no bringing -/
theorem bring_easy {f : Nat} (N : Nat → Prop) (w : World) (base sp : Nat) (lk : Int) (ps : List Nat) (vc : Value) (rb rc : Nat) (s : Sh) (k : Nat) (hS : ShAt N w base sp lk ps vc rb rc s) (hN : ∀ j, N j → j < w.heap.size) (hz : base ≤ w.heap.size) (hsm : s.cs.length ≤ 1048576) (hk : k < s.cs.length)
    (he : (s.at k).op = 0 ∨ ((s.at k).since = s.sets ∧ (s.at k).busy = false) ∨ (s.at k).busy = true) :
    Calls Tryd.prog 34 #[.pointer (some ⟨sp, 0, none⟩), .int .i64 k] w fun e w' =>
      e = .returned (.agg #[.int .i64 (bringM (f + 1) s k).2.1, .int .i64 (bringM (f + 1) s k).2.2]) ∧ ShAt N w' base sp lk ps vc rb rc (bringM (f + 1) s k).1 ∧ KeepN N w w' ∧ Below base w w' ∧ Held ps.length ps s w w' ∧ Below w.heap.size w w' := by
  have hlen := hS.len
  have hkp : k < ps.length := by omega
  have hpsm : ps.length ≤ 1048576 := by omega
  obtain ⟨gc, cc, rfl, hgc, _⟩ := hS.cells.form (by omega)
  obtain ⟨vd, vl, hv⟩ := hS.each k hkp
  have m2 := hS.sheet.cell 2
  have m4 := hS.sheet.cell 4
  have cg : w.cell? ⟨gc, k, none⟩ = some (.pointer (some ⟨ps[k], 0, none⟩)) := own_cell hS.cells k _ (by rw [List.getElem?_map, List.getElem?_eq_getElem hkp]; rfl)
  have c0 := hv.blk.cell 0
  have c5 := hv.blk.cell 5
  have c6 := hv.blk.cell 6
  have c8 := hv.blk.cell 8
  have c9 := hv.blk.cell 9
  simp [celCells] at m2 m4 c0 c5 c6 c8 c9
  have A : ∀ {a : Addr} {v : Value}, w.cell? a = some v → (w.alloc (.cells #[.int .i64 0, .int .i64 0] 68)).cell? a = some v := fun {a} {v} h => (World.cell?_alloc_old w _ a (World.new_ne w a h).symm).trans h
  replace m2 := A m2
  replace m4 := A m4
  replace cg := A cg
  replace c0 := A c0
  replace c5 := A c5
  replace c6 := A c6
  replace c8 := A c8
  replace c9 := A c9
  clear A
  have i1 : (0 : Int) ≤ (k : Int) := by omega
  have i2 : (k : Int) < (ps.length : Int) := by omega
  have Hlen := Lib.hid hlen
  clear hlen
  go_enter_defers Tryd.func34, Tryd.ntmps34
  go_upto_region 2 with fail
  obtain ⟨w2, hw2⟩ : ∃ w2, w2 = (w.alloc (.cells #[.int .i64 0, .int .i64 0] 68)).alloc (.cells #[.pointer (some ⟨ps[k], 0, none⟩)] 77) := ⟨_, rfl⟩
  have hb2 : Below w.heap.size w w2 := by rw [hw2]; exact ((Below.refl _ _).alloc (Nat.le_refl _) _).alloc (by simp) _
  have hbr : Blk w2 w.heap.size 68 #[.int .i64 0, .int .i64 0] := by rw [hw2]; exact (Blk.new _ _ _).alloc _
  have hbc : Blk w2 (w.heap.size + 1) 77 #[.pointer (some ⟨ps[k], 0, none⟩)] := by rw [hw2]; exact blk_new1 _ _ _ _
  rw [← hw2]
  clear hw2 m2 m4 cg c0 c5 c6 c8 c9
  have hS2 := hS.below hb2
  obtain ⟨vd, vl, hv⟩ := hS2.each k hkp
  have m4 := hS2.sheet.cell 4
  have c0 := hv.blk.cell 0
  have c5 := hv.blk.cell 5
  have c6 := hv.blk.cell 6
  have c8 := hv.blk.cell 8
  have c9 := hv.blk.cell 9
  have cc := hbc.cell 0
  have r0 := hbr.cell 0
  have r1 := hbr.cell 1
  have fr0 := hbr.frozen 0
  have fr1 := hbr.frozen 1
  simp [celCells] at m4 c0 c5 c6 c8 c9 cc r0 r1
  have Hhe := Lib.hid he
  clear he
  by_cases ho : (s.at k).op = 0
  · have e0 : ((s.at k).op == 0) = true := by simpa using ho
    have Ho := Lib.hid ho
    clear ho
    go_quiet (fail)
    go_wp2_with fail
    have hbx := bring_box hb2 hbr nq (s.at k).n (s.at k).e
    have hm : bringM (f + 1) s k = (s, ((s.at k).n, (s.at k).e)) := by unfold bringM; simp only []; rw [if_pos (.inl Ho.out)]
    rw [hm]
    exact ⟨_, bring_out (by rfl) hbx.1, rfl, bring_stay hS hN hz hbx.2⟩
  · have e0 : ((s.at k).op == 0) = false := by simpa using ho
    have Ho := Lib.hid ho
    clear ho
    by_cases hb : (s.at k).busy = true
    · rw [hb] at c9
      have hm : bringM (f + 1) s k = (s, (0, 7)) := by
        unfold bringM; simp only []; rw [if_neg (by rintro (h | ⟨_, h⟩); exact Ho.out h; rw [hb] at h; cases h), if_pos hb]
      have Hm := Lib.hid hm
      clear hm hb
      by_cases h1 : (s.at k).since = s.sets
      · have e1 : ((s.at k).since == s.sets) = true := by simpa using h1
        have H1 := Lib.hid h1
        clear h1
        go_quiet (fail)
        go_wp2_with fail
        have hbx := bring_box hb2 hbr nq 0 7
        rw [Hm.out]
        exact ⟨_, bring_out (by rfl) hbx.1, rfl, bring_stay hS hN hz hbx.2⟩
      · have e1 : ((s.at k).since == s.sets) = false := by simpa using h1
        have H1 := Lib.hid h1
        clear h1
        go_quiet (fail)
        go_wp2_with fail
        have hbx := bring_box hb2 hbr nq 0 7
        rw [Hm.out]
        exact ⟨_, bring_out (by rfl) hbx.1, rfl, bring_stay hS hN hz hbx.2⟩
    · have hb' : (s.at k).busy = false := by simpa using hb
      rw [hb'] at c9
      have h1 : (s.at k).since = s.sets := by
        rcases Hhe.out with h | h | h
        · exact absurd h Ho.out
        · exact h.1
        · exact absurd h hb
      have hm : bringM (f + 1) s k = (s, ((s.at k).n, (s.at k).e)) := by unfold bringM; simp only []; rw [if_pos (.inr ⟨h1, hb'⟩)]
      have Hm := Lib.hid hm
      have e1 : ((s.at k).since == s.sets) = true := by simpa using h1
      clear hm h1 hb hb'
      go_quiet (fail)
      go_wp2_with fail
      have hbx := bring_box hb2 hbr nq (s.at k).n (s.at k).e
      rw [Hm.out]
      exact ⟨_, bring_out (by rfl) hbx.1, rfl, bring_stay hS hN hz hbx.2⟩
end Go.Proofs.YtnadldoebfmgmaaDoor.q
