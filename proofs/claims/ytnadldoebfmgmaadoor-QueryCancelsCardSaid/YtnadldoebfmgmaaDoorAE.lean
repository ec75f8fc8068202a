/-
  THE WALK of (*query.Sheet).keep. (Printed by wip/mkkeepA.py.)
-/
import Derived.Test.YtnadldoebfmgmaaDoorAG
import Derived.Deep.OwnRows
namespace Go.Proofs.YtnadldoebfmgmaaDoor.q
open Go.RowKit

theorem infoKept : (Tryd.prog.info? 92).map (fun i => (i.zero, i.size, i.bytes)) = some (some (.agg #[.int .i64 0, .int .i64 0, .bool false, .slice none 0 0, .int .i64 0, .int .i64 0]), 6, 64) := by kernel_rfl
def keptC (c : Cel) (v : Value) : List Value := [.int .i64 c.n, .int .i64 c.e, .bool c.ran, v, .int .i64 c.since, .int .i64 c.runs]
/-- what is kept of the first n cells -/
def keptCells (s : Sh) (vd : Nat → Value) (n : Nat) : List Value := (List.range n).flatMap fun i => keptC (s.at i) (vd i)
theorem keptCells_succ (s : Sh) (vd : Nat → Value) (n : Nat) : keptCells s vd (n + 1) = keptCells s vd n ++ keptC (s.at n) (vd n) := by
  unfold keptCells
  rw [List.range_succ, List.flatMap_append]
  simp
theorem keptCells_length (s : Sh) (vd : Nat → Value) (n : Nat) : (keptCells s vd n).length = n * 6 := by
  induction n with
  | zero => rfl
  | succ n ih => rw [keptCells_succ, List.length_append, ih]; simp [keptC]; omega
theorem keptCells_get (s : Sh) (vd : Nat → Value) (n k j : Nat) (hj : j < 6) (hk : k < n) : (keptCells s vd n)[k * 6 + j]? = (keptC (s.at k) (vd k))[j]? := by
  induction n with
  | zero => omega
  | succ n ih =>
    rw [keptCells_succ]
    by_cases h : k < n
    · rw [List.getElem?_append_left (by rw [keptCells_length]; omega)]
      exact ih h
    · have e : k = n := by omega
      subst e
      rw [List.getElem?_append_right (by rw [keptCells_length]; omega), keptCells_length]
      rw [show k * 6 + j - k * 6 = j by omega]
set_option maxHeartbeats 2000000 in
set_option maxRecDepth 100000 in
theorem keep_walk {N : Nat → Prop} {w : World} {base sp rb rc : Nat} {lk : Int} {ps : List Nat} {vc : Value} {s : Sh} (hS : ShAt N w base sp lk ps vc rb rc s) (hz : base ≤ w.heap.size) (hsm : s.cs.length ≤ 1048576) (vd : Nat → Value) (hvd : ∀ i (h : i < ps.length), ∃ vl, CelV N w base ps[i] (s.at i) (vd i) vl) :
    Calls Tryd.prog 27 #[.pointer (some ⟨sp, 0, none⟩)] w fun e w' => ∃ v, e = .returned v ∧ w'.ownsRow w.heap.size 92 6 v ps.length (keptCells s vd ps.length) ∧ Below w.heap.size w w' := by
  have hlen := hS.len
  have hpsm : ps.length ≤ 1048576 := by omega
  obtain ⟨A, cap, rfl⟩ := vc_form hS
  have m2 := hS.sheet.cell 2
  simp at m2
  have Hlen := Lib.hid hlen
  have HS := Lib.hid hS
  have HV := Lib.hid hvd
  have HZ := Lib.hid hz
  clear hlen hS hvd hz
  go_enter Tryd.func27, Tryd.ntmps27
  go_wp2_with fail
  go_loopw [3, 11] (fun v i wr => ∃ k : Nat, i = .int .i64 k ∧ k ≤ ps.length ∧ wr.ownsRow w.heap.size 92 6 v k (keptCells s vd k) ∧ Below w.heap.size w wr) (fun _ i _ => ps.length - (intOf i).toNat)
  case atStart => exact ⟨0, rfl, Nat.zero_le _, World.ownsRow_nil _ _ _ _, Below.refl _ _⟩
  case round =>
    clear m2
    obtain ⟨k, rfl, hk, hown, hb⟩ := hrel
    by_cases hlt : k < ps.length
    · obtain ⟨gc, gcap, hgc, _, _⟩ := World.ownsRow.form HS.out.cells (by omega)
      obtain ⟨rfl, rfl⟩ : A = some ⟨gc, 0, none⟩ ∧ cap = gcap := by injection hgc with h1 _ h2; exact ⟨h1, h2⟩
      clear hgc
      have hz := HZ.out
      obtain ⟨vl, hv⟩ := HV.out k hlt
      obtain ⟨Ad, cd, hvd⟩ := own_form hv.deps
      have hSw : ShAt N wr base sp lk ps (.slice (some ⟨gc, 0, none⟩) ps.length cap) rb rc s := HS.out.below hb
      have hBp : Blk w ps[k] 76 (celCells (s.at k) (.slice Ad (s.at k).deps.length cd) vl) := by rw [← hvd]; exact hv.blk
      have m3 := HS.out.sheet.cell 3
      have cg : wr.cell? ⟨gc, k, none⟩ = some (.pointer (some ⟨ps[k], 0, none⟩)) := own_cell hSw.cells k _ (by rw [List.getElem?_map, List.getElem?_eq_getElem hlt]; rfl)
      have hk' : k < s.cs.length := by have := Hlen.out; omega
      have cr : w.cell? ⟨rb, k, none⟩ = some (.int .i64 (s.at k).runs) := own_cell HS.out.runs k _ (by
        have e2 : s.at k = s.cs[k] := by unfold Sh.at; rw [List.getD_eq_getElem?_getD, List.getElem?_eq_getElem hk']; rfl
        rw [List.getElem?_map, List.getElem?_eq_getElem hk', e2]; rfl)
      have c4 := hBp.cell 4
      have c5 := hBp.cell 5
      have c6 := hBp.cell 6
      have c7 := hBp.cell 7
      have c8 := hBp.cell 8
      simp [celCells] at m3 c4 c5 c6 c7 c8
      have l1 : ps[k] < w.heap.size := hBp.lt
      have l2 : sp < w.heap.size := HS.out.sheet.lt
      have l3 : rb < w.heap.size := (HS.out.runs.lt rb rfl).2
      have HKC : Hid (keptCells s vd (k + 1) = keptCells s vd k ++ [.int .i64 (s.at k).n, .int .i64 (s.at k).e, .bool (s.at k).ran, .slice Ad (s.at k).deps.length cd, .int .i64 (s.at k).since, .int .i64 (s.at k).runs]) := show _ = _ by rw [keptCells_succ, hvd]; rfl
      have i1 : (0 : Int) ≤ (k : Int) := by omega
      have i2 : (k : Int) < (ps.length : Int) := by omega
      have i3 : decide (k < ps.length) = true := by simpa using hlt
      obtain ⟨p, hp⟩ : ∃ p, p = ps[k] := ⟨_, rfl⟩
      rw [← hp] at cg c4 c5 c6 c7 c8 l1
      clear hvd hv hSw hBp hp
      generalize s.at k = c at *
      have HC : Hid (∀ W, Below w.heap.size w W → (fun w' : World => w'.cell? ⟨p, 5, none⟩ = some (.int .i64 c.n) ∧ w'.cell? ⟨p, 6, none⟩ = some (.int .i64 c.e) ∧ w'.cell? ⟨p, 4, none⟩ = some (.bool c.ran) ∧ w'.cell? ⟨p, 7, none⟩ = some (.slice Ad c.deps.length cd) ∧ w'.cell? ⟨p, 8, none⟩ = some (.int .i64 c.since) ∧ w'.cell? ⟨sp, 3, none⟩ = some (.slice (some ⟨rb, 0, none⟩) ps.length rc) ∧ w'.cell? ⟨rb, k, none⟩ = some (.int .i64 c.runs)) W) := fun W h => ⟨(h.cell (p := ⟨p, 5, none⟩) l1).trans c5, (h.cell (p := ⟨p, 6, none⟩) l1).trans c6, (h.cell (p := ⟨p, 4, none⟩) l1).trans c4, (h.cell (p := ⟨p, 7, none⟩) l1).trans c7, (h.cell (p := ⟨p, 8, none⟩) l1).trans c8, (h.cell (p := ⟨sp, 3, none⟩) l2).trans m3, (h.cell (p := ⟨rb, k, none⟩) l3).trans cr⟩
      clear c4 c5 c6 c7 c8 m3 cr
      obtain ⟨c5, c6, c4, c7, c8, m3, cr⟩ := HC.out wr hb
      go_upto_region 5 with fail
      obtain ⟨ip, ji, jz0, jz1, jz2⟩ := info_parts infoKept
      refine wp_region_C (fun j w' => j ∉ [0, 27] → (fun w' : World => w'.cell? ⟨p, 5, none⟩ = some (.int .i64 c.n) ∧ w'.cell? ⟨p, 6, none⟩ = some (.int .i64 c.e) ∧ w'.cell? ⟨p, 4, none⟩ = some (.bool c.ran) ∧ w'.cell? ⟨p, 7, none⟩ = some (.slice Ad c.deps.length cd) ∧ w'.cell? ⟨p, 8, none⟩ = some (.int .i64 c.since) ∧ w'.cell? ⟨sp, 3, none⟩ = some (.slice (some ⟨rb, 0, none⟩) ps.length rc) ∧ w'.cell? ⟨rb, k, none⟩ = some (.int .i64 c.runs)) w') (by kernel_rfl) ?_
      have hS0 : (fun w' : World => w'.cell? ⟨p, 5, none⟩ = some (.int .i64 c.n) ∧ w'.cell? ⟨p, 6, none⟩ = some (.int .i64 c.e) ∧ w'.cell? ⟨p, 4, none⟩ = some (.bool c.ran) ∧ w'.cell? ⟨p, 7, none⟩ = some (.slice Ad c.deps.length cd) ∧ w'.cell? ⟨p, 8, none⟩ = some (.int .i64 c.since) ∧ w'.cell? ⟨sp, 3, none⟩ = some (.slice (some ⟨rb, 0, none⟩) ps.length rc) ∧ w'.cell? ⟨rb, k, none⟩ = some (.int .i64 c.runs)) wr.drew := ⟨c5, c6, c4, c7, c8, m3, cr⟩
      refine wpAnyC_take (fun _ : World => True) [27] (i := 0) (v := ?_) rfl (by kernel_rfl) (by kernel_rfl) (by kernel_rfl) (by kernel_rfl) (fun _ _ _ h => h) (fun _ _ _ _ _ _ => trivial) (fun w' _ h => absurd (by simp) h) (Or.inl ⟨by rfl, ?_⟩) trivial ?_; rotate_left; · (intro w hSw; go_simp; try with_reducible rfl)
      simp only [Act.put, List.setIfInBounds_toArray]
      refine wpAnyC_take (fun w' : World => w'.cell? ⟨p, 5, none⟩ = some (.int .i64 c.n) ∧ w'.cell? ⟨p, 6, none⟩ = some (.int .i64 c.e) ∧ w'.cell? ⟨p, 4, none⟩ = some (.bool c.ran) ∧ w'.cell? ⟨p, 7, none⟩ = some (.slice Ad c.deps.length cd) ∧ w'.cell? ⟨p, 8, none⟩ = some (.int .i64 c.since) ∧ w'.cell? ⟨sp, 3, none⟩ = some (.slice (some ⟨rb, 0, none⟩) ps.length rc) ∧ w'.cell? ⟨rb, k, none⟩ = some (.int .i64 c.runs)) [27] (i := 1) (v := ?_) rfl (by kernel_rfl) (by kernel_rfl) (by kernel_rfl) (by kernel_rfl) (fun _ _ _ h => h) (fun j w' hl _ hL h => h (fun hm => by simp only [List.mem_cons, List.mem_nil_iff, or_false] at hm hL; rcases hm with rfl | rfl <;> first | exact hL rfl | exact absurd hl (by decide))) (fun w' h _ => h) (Or.inl ⟨by rfl, ?_⟩) hS0 ?_; rotate_left; · (intro w hSw; (try dsimp only at hSw); obtain ⟨s0, s1, s2, s3, s4, s5, s6⟩ := hSw; go_simp; try with_reducible rfl)
      simp only [Act.put]
      refine wpAnyC_take (fun w' : World => w'.cell? ⟨p, 5, none⟩ = some (.int .i64 c.n) ∧ w'.cell? ⟨p, 6, none⟩ = some (.int .i64 c.e) ∧ w'.cell? ⟨p, 4, none⟩ = some (.bool c.ran) ∧ w'.cell? ⟨p, 7, none⟩ = some (.slice Ad c.deps.length cd) ∧ w'.cell? ⟨p, 8, none⟩ = some (.int .i64 c.since) ∧ w'.cell? ⟨sp, 3, none⟩ = some (.slice (some ⟨rb, 0, none⟩) ps.length rc) ∧ w'.cell? ⟨rb, k, none⟩ = some (.int .i64 c.runs)) [27] (i := 2) (v := ?_) rfl (by kernel_rfl) (by kernel_rfl) (by kernel_rfl) (by kernel_rfl) (fun _ _ _ h => h) (fun j w' hl _ hL h => h (fun hm => by simp only [List.mem_cons, List.mem_nil_iff, or_false] at hm hL; rcases hm with rfl | rfl <;> first | exact hL rfl | exact absurd hl (by decide))) (fun w' h _ => h) (Or.inl ⟨by rfl, ?_⟩) hS0 ?_; rotate_left; · (intro w hSw; (try dsimp only at hSw); obtain ⟨s0, s1, s2, s3, s4, s5, s6⟩ := hSw; go_simp; try with_reducible rfl)
      simp only [Act.put]
      refine wpAnyC_take (fun w' : World => w'.cell? ⟨p, 5, none⟩ = some (.int .i64 c.n) ∧ w'.cell? ⟨p, 6, none⟩ = some (.int .i64 c.e) ∧ w'.cell? ⟨p, 4, none⟩ = some (.bool c.ran) ∧ w'.cell? ⟨p, 7, none⟩ = some (.slice Ad c.deps.length cd) ∧ w'.cell? ⟨p, 8, none⟩ = some (.int .i64 c.since) ∧ w'.cell? ⟨sp, 3, none⟩ = some (.slice (some ⟨rb, 0, none⟩) ps.length rc) ∧ w'.cell? ⟨rb, k, none⟩ = some (.int .i64 c.runs)) [27] (i := 3) (v := ?_) rfl (by kernel_rfl) (by kernel_rfl) (by kernel_rfl) (by kernel_rfl) (fun _ _ _ h => h) (fun j w' hl _ hL h => h (fun hm => by simp only [List.mem_cons, List.mem_nil_iff, or_false] at hm hL; rcases hm with rfl | rfl <;> first | exact hL rfl | exact absurd hl (by decide))) (fun w' h _ => h) (Or.inl ⟨by rfl, ?_⟩) hS0 ?_; rotate_left; · (intro w hSw; (try dsimp only at hSw); obtain ⟨s0, s1, s2, s3, s4, s5, s6⟩ := hSw; go_simp; try with_reducible rfl)
      simp only [Act.put]
      refine wpAnyC_take (fun w' : World => w'.cell? ⟨p, 5, none⟩ = some (.int .i64 c.n) ∧ w'.cell? ⟨p, 6, none⟩ = some (.int .i64 c.e) ∧ w'.cell? ⟨p, 4, none⟩ = some (.bool c.ran) ∧ w'.cell? ⟨p, 7, none⟩ = some (.slice Ad c.deps.length cd) ∧ w'.cell? ⟨p, 8, none⟩ = some (.int .i64 c.since) ∧ w'.cell? ⟨sp, 3, none⟩ = some (.slice (some ⟨rb, 0, none⟩) ps.length rc) ∧ w'.cell? ⟨rb, k, none⟩ = some (.int .i64 c.runs)) [27] (i := 4) (v := ?_) rfl (by kernel_rfl) (by kernel_rfl) (by kernel_rfl) (by kernel_rfl) (fun _ _ _ h => h) (fun j w' hl _ hL h => h (fun hm => by simp only [List.mem_cons, List.mem_nil_iff, or_false] at hm hL; rcases hm with rfl | rfl <;> first | exact hL rfl | exact absurd hl (by decide))) (fun w' h _ => h) (Or.inl ⟨by rfl, ?_⟩) hS0 ?_; rotate_left; · (intro w hSw; (try dsimp only at hSw); obtain ⟨s0, s1, s2, s3, s4, s5, s6⟩ := hSw; go_simp; try with_reducible rfl)
      simp only [Act.put]
      refine wpAnyC_take (fun w' : World => w'.cell? ⟨p, 5, none⟩ = some (.int .i64 c.n) ∧ w'.cell? ⟨p, 6, none⟩ = some (.int .i64 c.e) ∧ w'.cell? ⟨p, 4, none⟩ = some (.bool c.ran) ∧ w'.cell? ⟨p, 7, none⟩ = some (.slice Ad c.deps.length cd) ∧ w'.cell? ⟨p, 8, none⟩ = some (.int .i64 c.since) ∧ w'.cell? ⟨sp, 3, none⟩ = some (.slice (some ⟨rb, 0, none⟩) ps.length rc) ∧ w'.cell? ⟨rb, k, none⟩ = some (.int .i64 c.runs)) [27] (i := 5) (v := ?_) rfl (by kernel_rfl) (by kernel_rfl) (by kernel_rfl) (by kernel_rfl) (fun _ _ _ h => h) (fun j w' hl _ hL h => h (fun hm => by simp only [List.mem_cons, List.mem_nil_iff, or_false] at hm hL; rcases hm with rfl | rfl <;> first | exact hL rfl | exact absurd hl (by decide))) (fun w' h _ => h) (Or.inl ⟨by rfl, ?_⟩) hS0 ?_; rotate_left; · (intro w hSw; (try dsimp only at hSw); obtain ⟨s0, s1, s2, s3, s4, s5, s6⟩ := hSw; go_simp; try with_reducible rfl)
      simp only [Act.put]
      refine wpAnyC_take (fun w' : World => w'.cell? ⟨p, 5, none⟩ = some (.int .i64 c.n) ∧ w'.cell? ⟨p, 6, none⟩ = some (.int .i64 c.e) ∧ w'.cell? ⟨p, 4, none⟩ = some (.bool c.ran) ∧ w'.cell? ⟨p, 7, none⟩ = some (.slice Ad c.deps.length cd) ∧ w'.cell? ⟨p, 8, none⟩ = some (.int .i64 c.since) ∧ w'.cell? ⟨sp, 3, none⟩ = some (.slice (some ⟨rb, 0, none⟩) ps.length rc) ∧ w'.cell? ⟨rb, k, none⟩ = some (.int .i64 c.runs)) [27] (i := 6) (v := ?_) rfl (by kernel_rfl) (by kernel_rfl) (by kernel_rfl) (by kernel_rfl) (fun _ _ _ h => h) (fun j w' hl _ hL h => h (fun hm => by simp only [List.mem_cons, List.mem_nil_iff, or_false] at hm hL; rcases hm with rfl | rfl <;> first | exact hL rfl | exact absurd hl (by decide))) (fun w' h _ => h) (Or.inl ⟨by rfl, ?_⟩) hS0 ?_; rotate_left; · (intro w hSw; (try dsimp only at hSw); obtain ⟨s0, s1, s2, s3, s4, s5, s6⟩ := hSw; go_simp; try with_reducible rfl)
      simp only [Act.put]
      refine wpAnyC_take (fun w' : World => w'.cell? ⟨p, 5, none⟩ = some (.int .i64 c.n) ∧ w'.cell? ⟨p, 6, none⟩ = some (.int .i64 c.e) ∧ w'.cell? ⟨p, 4, none⟩ = some (.bool c.ran) ∧ w'.cell? ⟨p, 7, none⟩ = some (.slice Ad c.deps.length cd) ∧ w'.cell? ⟨p, 8, none⟩ = some (.int .i64 c.since) ∧ w'.cell? ⟨sp, 3, none⟩ = some (.slice (some ⟨rb, 0, none⟩) ps.length rc) ∧ w'.cell? ⟨rb, k, none⟩ = some (.int .i64 c.runs)) [27] (i := 7) (v := ?_) rfl (by kernel_rfl) (by kernel_rfl) (by kernel_rfl) (by kernel_rfl) (fun _ _ _ h => h) (fun j w' hl _ hL h => h (fun hm => by simp only [List.mem_cons, List.mem_nil_iff, or_false] at hm hL; rcases hm with rfl | rfl <;> first | exact hL rfl | exact absurd hl (by decide))) (fun w' h _ => h) (Or.inl ⟨by rfl, ?_⟩) hS0 ?_; rotate_left; · (intro w hSw; (try dsimp only at hSw); obtain ⟨s0, s1, s2, s3, s4, s5, s6⟩ := hSw; go_simp; try with_reducible rfl)
      simp only [Act.put]
      refine wpAnyC_take (fun w' : World => w'.cell? ⟨p, 5, none⟩ = some (.int .i64 c.n) ∧ w'.cell? ⟨p, 6, none⟩ = some (.int .i64 c.e) ∧ w'.cell? ⟨p, 4, none⟩ = some (.bool c.ran) ∧ w'.cell? ⟨p, 7, none⟩ = some (.slice Ad c.deps.length cd) ∧ w'.cell? ⟨p, 8, none⟩ = some (.int .i64 c.since) ∧ w'.cell? ⟨sp, 3, none⟩ = some (.slice (some ⟨rb, 0, none⟩) ps.length rc) ∧ w'.cell? ⟨rb, k, none⟩ = some (.int .i64 c.runs)) [27] (i := 8) (v := ?_) rfl (by kernel_rfl) (by kernel_rfl) (by kernel_rfl) (by kernel_rfl) (fun _ _ _ h => h) (fun j w' hl _ hL h => h (fun hm => by simp only [List.mem_cons, List.mem_nil_iff, or_false] at hm hL; rcases hm with rfl | rfl <;> first | exact hL rfl | exact absurd hl (by decide))) (fun w' h _ => h) (Or.inl ⟨by rfl, ?_⟩) hS0 ?_; rotate_left; · (intro w hSw; (try dsimp only at hSw); obtain ⟨s0, s1, s2, s3, s4, s5, s6⟩ := hSw; go_simp; try with_reducible rfl)
      simp only [Act.put]
      refine wpAnyC_take (fun w' : World => w'.cell? ⟨p, 5, none⟩ = some (.int .i64 c.n) ∧ w'.cell? ⟨p, 6, none⟩ = some (.int .i64 c.e) ∧ w'.cell? ⟨p, 4, none⟩ = some (.bool c.ran) ∧ w'.cell? ⟨p, 7, none⟩ = some (.slice Ad c.deps.length cd) ∧ w'.cell? ⟨p, 8, none⟩ = some (.int .i64 c.since) ∧ w'.cell? ⟨sp, 3, none⟩ = some (.slice (some ⟨rb, 0, none⟩) ps.length rc) ∧ w'.cell? ⟨rb, k, none⟩ = some (.int .i64 c.runs)) [27] (i := 9) (v := ?_) rfl (by kernel_rfl) (by kernel_rfl) (by kernel_rfl) (by kernel_rfl) (fun _ _ _ h => h) (fun j w' hl _ hL h => h (fun hm => by simp only [List.mem_cons, List.mem_nil_iff, or_false] at hm hL; rcases hm with rfl | rfl <;> first | exact hL rfl | exact absurd hl (by decide))) (fun w' h _ => h) (Or.inl ⟨by rfl, ?_⟩) hS0 ?_; rotate_left; · (intro w hSw; (try dsimp only at hSw); obtain ⟨s0, s1, s2, s3, s4, s5, s6⟩ := hSw; go_simp; try with_reducible rfl)
      simp only [Act.put]
      refine wpAnyC_take (fun w' : World => w'.cell? ⟨p, 5, none⟩ = some (.int .i64 c.n) ∧ w'.cell? ⟨p, 6, none⟩ = some (.int .i64 c.e) ∧ w'.cell? ⟨p, 4, none⟩ = some (.bool c.ran) ∧ w'.cell? ⟨p, 7, none⟩ = some (.slice Ad c.deps.length cd) ∧ w'.cell? ⟨p, 8, none⟩ = some (.int .i64 c.since) ∧ w'.cell? ⟨sp, 3, none⟩ = some (.slice (some ⟨rb, 0, none⟩) ps.length rc) ∧ w'.cell? ⟨rb, k, none⟩ = some (.int .i64 c.runs)) [27] (i := 10) (v := ?_) rfl (by kernel_rfl) (by kernel_rfl) (by kernel_rfl) (by kernel_rfl) (fun _ _ _ h => h) (fun j w' hl _ hL h => h (fun hm => by simp only [List.mem_cons, List.mem_nil_iff, or_false] at hm hL; rcases hm with rfl | rfl <;> first | exact hL rfl | exact absurd hl (by decide))) (fun w' h _ => h) (Or.inl ⟨by rfl, ?_⟩) hS0 ?_; rotate_left; · (intro w hSw; (try dsimp only at hSw); obtain ⟨s0, s1, s2, s3, s4, s5, s6⟩ := hSw; go_simp; try with_reducible rfl)
      simp only [Act.put]
      refine wpAnyC_take (fun w' : World => w'.cell? ⟨p, 5, none⟩ = some (.int .i64 c.n) ∧ w'.cell? ⟨p, 6, none⟩ = some (.int .i64 c.e) ∧ w'.cell? ⟨p, 4, none⟩ = some (.bool c.ran) ∧ w'.cell? ⟨p, 7, none⟩ = some (.slice Ad c.deps.length cd) ∧ w'.cell? ⟨p, 8, none⟩ = some (.int .i64 c.since) ∧ w'.cell? ⟨sp, 3, none⟩ = some (.slice (some ⟨rb, 0, none⟩) ps.length rc) ∧ w'.cell? ⟨rb, k, none⟩ = some (.int .i64 c.runs)) [27] (i := 11) (v := ?_) rfl (by kernel_rfl) (by kernel_rfl) (by kernel_rfl) (by kernel_rfl) (fun _ _ _ h => h) (fun j w' hl _ hL h => h (fun hm => by simp only [List.mem_cons, List.mem_nil_iff, or_false] at hm hL; rcases hm with rfl | rfl <;> first | exact hL rfl | exact absurd hl (by decide))) (fun w' h _ => h) (Or.inl ⟨by rfl, ?_⟩) hS0 ?_; rotate_left; · (intro w hSw; (try dsimp only at hSw); obtain ⟨s0, s1, s2, s3, s4, s5, s6⟩ := hSw; go_simp; try with_reducible rfl)
      simp only [Act.put]
      refine wpAnyC_take (fun w' : World => w'.cell? ⟨p, 5, none⟩ = some (.int .i64 c.n) ∧ w'.cell? ⟨p, 6, none⟩ = some (.int .i64 c.e) ∧ w'.cell? ⟨p, 4, none⟩ = some (.bool c.ran) ∧ w'.cell? ⟨p, 7, none⟩ = some (.slice Ad c.deps.length cd) ∧ w'.cell? ⟨p, 8, none⟩ = some (.int .i64 c.since) ∧ w'.cell? ⟨sp, 3, none⟩ = some (.slice (some ⟨rb, 0, none⟩) ps.length rc) ∧ w'.cell? ⟨rb, k, none⟩ = some (.int .i64 c.runs)) [27] (i := 12) (v := ?_) rfl (by kernel_rfl) (by kernel_rfl) (by kernel_rfl) (by kernel_rfl) (fun _ _ _ h => h) (fun j w' hl _ hL h => h (fun hm => by simp only [List.mem_cons, List.mem_nil_iff, or_false] at hm hL; rcases hm with rfl | rfl <;> first | exact hL rfl | exact absurd hl (by decide))) (fun w' h _ => h) (Or.inl ⟨by rfl, ?_⟩) hS0 ?_; rotate_left; · (intro w hSw; (try dsimp only at hSw); obtain ⟨s0, s1, s2, s3, s4, s5, s6⟩ := hSw; go_simp; try with_reducible rfl)
      simp only [Act.put]
      refine wpAnyC_take (fun w' : World => w'.cell? ⟨p, 5, none⟩ = some (.int .i64 c.n) ∧ w'.cell? ⟨p, 6, none⟩ = some (.int .i64 c.e) ∧ w'.cell? ⟨p, 4, none⟩ = some (.bool c.ran) ∧ w'.cell? ⟨p, 7, none⟩ = some (.slice Ad c.deps.length cd) ∧ w'.cell? ⟨p, 8, none⟩ = some (.int .i64 c.since) ∧ w'.cell? ⟨sp, 3, none⟩ = some (.slice (some ⟨rb, 0, none⟩) ps.length rc) ∧ w'.cell? ⟨rb, k, none⟩ = some (.int .i64 c.runs)) [27] (i := 13) (v := ?_) rfl (by kernel_rfl) (by kernel_rfl) (by kernel_rfl) (by kernel_rfl) (fun _ _ _ h => h) (fun j w' hl _ hL h => h (fun hm => by simp only [List.mem_cons, List.mem_nil_iff, or_false] at hm hL; rcases hm with rfl | rfl <;> first | exact hL rfl | exact absurd hl (by decide))) (fun w' h _ => h) (Or.inl ⟨by rfl, ?_⟩) hS0 ?_; rotate_left; · (intro w hSw; (try dsimp only at hSw); obtain ⟨s0, s1, s2, s3, s4, s5, s6⟩ := hSw; go_simp; try with_reducible rfl)
      simp only [Act.put]
      refine wpAnyC_take (fun w' : World => w'.cell? ⟨p, 5, none⟩ = some (.int .i64 c.n) ∧ w'.cell? ⟨p, 6, none⟩ = some (.int .i64 c.e) ∧ w'.cell? ⟨p, 4, none⟩ = some (.bool c.ran) ∧ w'.cell? ⟨p, 7, none⟩ = some (.slice Ad c.deps.length cd) ∧ w'.cell? ⟨p, 8, none⟩ = some (.int .i64 c.since) ∧ w'.cell? ⟨sp, 3, none⟩ = some (.slice (some ⟨rb, 0, none⟩) ps.length rc) ∧ w'.cell? ⟨rb, k, none⟩ = some (.int .i64 c.runs)) [27] (i := 14) (v := ?_) rfl (by kernel_rfl) (by kernel_rfl) (by kernel_rfl) (by kernel_rfl) (fun _ _ _ h => h) (fun j w' hl _ hL h => h (fun hm => by simp only [List.mem_cons, List.mem_nil_iff, or_false] at hm hL; rcases hm with rfl | rfl <;> first | exact hL rfl | exact absurd hl (by decide))) (fun w' h _ => h) (Or.inl ⟨by rfl, ?_⟩) hS0 ?_; rotate_left; · (intro w hSw; (try dsimp only at hSw); obtain ⟨s0, s1, s2, s3, s4, s5, s6⟩ := hSw; go_simp; try with_reducible rfl)
      simp only [Act.put]
      refine wpAnyC_take (fun w' : World => w'.cell? ⟨p, 5, none⟩ = some (.int .i64 c.n) ∧ w'.cell? ⟨p, 6, none⟩ = some (.int .i64 c.e) ∧ w'.cell? ⟨p, 4, none⟩ = some (.bool c.ran) ∧ w'.cell? ⟨p, 7, none⟩ = some (.slice Ad c.deps.length cd) ∧ w'.cell? ⟨p, 8, none⟩ = some (.int .i64 c.since) ∧ w'.cell? ⟨sp, 3, none⟩ = some (.slice (some ⟨rb, 0, none⟩) ps.length rc) ∧ w'.cell? ⟨rb, k, none⟩ = some (.int .i64 c.runs)) [27] (i := 15) (v := ?_) rfl (by kernel_rfl) (by kernel_rfl) (by kernel_rfl) (by kernel_rfl) (fun _ _ _ h => h) (fun j w' hl _ hL h => h (fun hm => by simp only [List.mem_cons, List.mem_nil_iff, or_false] at hm hL; rcases hm with rfl | rfl <;> first | exact hL rfl | exact absurd hl (by decide))) (fun w' h _ => h) (Or.inl ⟨by rfl, ?_⟩) hS0 ?_; rotate_left; · (intro w hSw; (try dsimp only at hSw); obtain ⟨s0, s1, s2, s3, s4, s5, s6⟩ := hSw; go_simp; try with_reducible rfl)
      simp only [Act.put]
      refine wpAnyC_take (fun w' : World => w'.cell? ⟨p, 5, none⟩ = some (.int .i64 c.n) ∧ w'.cell? ⟨p, 6, none⟩ = some (.int .i64 c.e) ∧ w'.cell? ⟨p, 4, none⟩ = some (.bool c.ran) ∧ w'.cell? ⟨p, 7, none⟩ = some (.slice Ad c.deps.length cd) ∧ w'.cell? ⟨p, 8, none⟩ = some (.int .i64 c.since) ∧ w'.cell? ⟨sp, 3, none⟩ = some (.slice (some ⟨rb, 0, none⟩) ps.length rc) ∧ w'.cell? ⟨rb, k, none⟩ = some (.int .i64 c.runs)) [27] (i := 16) (v := ?_) rfl (by kernel_rfl) (by kernel_rfl) (by kernel_rfl) (by kernel_rfl) (fun _ _ _ h => h) (fun j w' hl _ hL h => h (fun hm => by simp only [List.mem_cons, List.mem_nil_iff, or_false] at hm hL; rcases hm with rfl | rfl <;> first | exact hL rfl | exact absurd hl (by decide))) (fun w' h _ => h) (Or.inl ⟨by rfl, ?_⟩) hS0 ?_; rotate_left; · (intro w hSw; (try dsimp only at hSw); obtain ⟨s0, s1, s2, s3, s4, s5, s6⟩ := hSw; go_simp; try with_reducible rfl)
      simp only [Act.put]
      refine wpAnyC_take (fun w' : World => w'.cell? ⟨p, 5, none⟩ = some (.int .i64 c.n) ∧ w'.cell? ⟨p, 6, none⟩ = some (.int .i64 c.e) ∧ w'.cell? ⟨p, 4, none⟩ = some (.bool c.ran) ∧ w'.cell? ⟨p, 7, none⟩ = some (.slice Ad c.deps.length cd) ∧ w'.cell? ⟨p, 8, none⟩ = some (.int .i64 c.since) ∧ w'.cell? ⟨sp, 3, none⟩ = some (.slice (some ⟨rb, 0, none⟩) ps.length rc) ∧ w'.cell? ⟨rb, k, none⟩ = some (.int .i64 c.runs)) [27] (i := 17) (v := ?_) rfl (by kernel_rfl) (by kernel_rfl) (by kernel_rfl) (by kernel_rfl) (fun _ _ _ h => h) (fun j w' hl _ hL h => h (fun hm => by simp only [List.mem_cons, List.mem_nil_iff, or_false] at hm hL; rcases hm with rfl | rfl <;> first | exact hL rfl | exact absurd hl (by decide))) (fun w' h _ => h) (Or.inl ⟨by rfl, ?_⟩) hS0 ?_; rotate_left; · (intro w hSw; (try dsimp only at hSw); obtain ⟨s0, s1, s2, s3, s4, s5, s6⟩ := hSw; go_simp; try with_reducible rfl)
      simp only [Act.put]
      refine wpAnyC_take (fun w' : World => w'.cell? ⟨p, 5, none⟩ = some (.int .i64 c.n) ∧ w'.cell? ⟨p, 6, none⟩ = some (.int .i64 c.e) ∧ w'.cell? ⟨p, 4, none⟩ = some (.bool c.ran) ∧ w'.cell? ⟨p, 7, none⟩ = some (.slice Ad c.deps.length cd) ∧ w'.cell? ⟨p, 8, none⟩ = some (.int .i64 c.since) ∧ w'.cell? ⟨sp, 3, none⟩ = some (.slice (some ⟨rb, 0, none⟩) ps.length rc) ∧ w'.cell? ⟨rb, k, none⟩ = some (.int .i64 c.runs)) [27] (i := 18) (v := ?_) rfl (by kernel_rfl) (by kernel_rfl) (by kernel_rfl) (by kernel_rfl) (fun _ _ _ h => h) (fun j w' hl _ hL h => h (fun hm => by simp only [List.mem_cons, List.mem_nil_iff, or_false] at hm hL; rcases hm with rfl | rfl <;> first | exact hL rfl | exact absurd hl (by decide))) (fun w' h _ => h) (Or.inl ⟨by rfl, ?_⟩) hS0 ?_; rotate_left; · (intro w hSw; (try dsimp only at hSw); obtain ⟨s0, s1, s2, s3, s4, s5, s6⟩ := hSw; go_simp; try with_reducible rfl)
      simp only [Act.put]
      refine wpAnyC_take (fun w' : World => w'.cell? ⟨p, 5, none⟩ = some (.int .i64 c.n) ∧ w'.cell? ⟨p, 6, none⟩ = some (.int .i64 c.e) ∧ w'.cell? ⟨p, 4, none⟩ = some (.bool c.ran) ∧ w'.cell? ⟨p, 7, none⟩ = some (.slice Ad c.deps.length cd) ∧ w'.cell? ⟨p, 8, none⟩ = some (.int .i64 c.since) ∧ w'.cell? ⟨sp, 3, none⟩ = some (.slice (some ⟨rb, 0, none⟩) ps.length rc) ∧ w'.cell? ⟨rb, k, none⟩ = some (.int .i64 c.runs)) [27] (i := 19) (v := ?_) rfl (by kernel_rfl) (by kernel_rfl) (by kernel_rfl) (by kernel_rfl) (fun _ _ _ h => h) (fun j w' hl _ hL h => h (fun hm => by simp only [List.mem_cons, List.mem_nil_iff, or_false] at hm hL; rcases hm with rfl | rfl <;> first | exact hL rfl | exact absurd hl (by decide))) (fun w' h _ => h) (Or.inl ⟨by rfl, ?_⟩) hS0 ?_; rotate_left; · (intro w hSw; (try dsimp only at hSw); obtain ⟨s0, s1, s2, s3, s4, s5, s6⟩ := hSw; go_simp; try with_reducible rfl)
      simp only [Act.put]
      refine wpAnyC_take (fun w' : World => w'.cell? ⟨p, 5, none⟩ = some (.int .i64 c.n) ∧ w'.cell? ⟨p, 6, none⟩ = some (.int .i64 c.e) ∧ w'.cell? ⟨p, 4, none⟩ = some (.bool c.ran) ∧ w'.cell? ⟨p, 7, none⟩ = some (.slice Ad c.deps.length cd) ∧ w'.cell? ⟨p, 8, none⟩ = some (.int .i64 c.since) ∧ w'.cell? ⟨sp, 3, none⟩ = some (.slice (some ⟨rb, 0, none⟩) ps.length rc) ∧ w'.cell? ⟨rb, k, none⟩ = some (.int .i64 c.runs)) [27] (i := 20) (v := ?_) rfl (by kernel_rfl) (by kernel_rfl) (by kernel_rfl) (by kernel_rfl) (fun _ _ _ h => h) (fun j w' hl _ hL h => h (fun hm => by simp only [List.mem_cons, List.mem_nil_iff, or_false] at hm hL; rcases hm with rfl | rfl <;> first | exact hL rfl | exact absurd hl (by decide))) (fun w' h _ => h) (Or.inl ⟨by rfl, ?_⟩) hS0 ?_; rotate_left; · (intro w hSw; (try dsimp only at hSw); obtain ⟨s0, s1, s2, s3, s4, s5, s6⟩ := hSw; go_simp; try with_reducible rfl)
      simp only [Act.put]
      refine wpAnyC_take (fun w' : World => w'.cell? ⟨p, 5, none⟩ = some (.int .i64 c.n) ∧ w'.cell? ⟨p, 6, none⟩ = some (.int .i64 c.e) ∧ w'.cell? ⟨p, 4, none⟩ = some (.bool c.ran) ∧ w'.cell? ⟨p, 7, none⟩ = some (.slice Ad c.deps.length cd) ∧ w'.cell? ⟨p, 8, none⟩ = some (.int .i64 c.since) ∧ w'.cell? ⟨sp, 3, none⟩ = some (.slice (some ⟨rb, 0, none⟩) ps.length rc) ∧ w'.cell? ⟨rb, k, none⟩ = some (.int .i64 c.runs)) [27] (i := 21) (v := ?_) rfl (by kernel_rfl) (by kernel_rfl) (by kernel_rfl) (by kernel_rfl) (fun _ _ _ h => h) (fun j w' hl _ hL h => h (fun hm => by simp only [List.mem_cons, List.mem_nil_iff, or_false] at hm hL; rcases hm with rfl | rfl <;> first | exact hL rfl | exact absurd hl (by decide))) (fun w' h _ => h) (Or.inl ⟨by rfl, ?_⟩) hS0 ?_; rotate_left; · (intro w hSw; (try dsimp only at hSw); obtain ⟨s0, s1, s2, s3, s4, s5, s6⟩ := hSw; go_simp; try with_reducible rfl)
      simp only [Act.put]
      refine wpAnyC_take (fun w' : World => w'.cell? ⟨p, 5, none⟩ = some (.int .i64 c.n) ∧ w'.cell? ⟨p, 6, none⟩ = some (.int .i64 c.e) ∧ w'.cell? ⟨p, 4, none⟩ = some (.bool c.ran) ∧ w'.cell? ⟨p, 7, none⟩ = some (.slice Ad c.deps.length cd) ∧ w'.cell? ⟨p, 8, none⟩ = some (.int .i64 c.since) ∧ w'.cell? ⟨sp, 3, none⟩ = some (.slice (some ⟨rb, 0, none⟩) ps.length rc) ∧ w'.cell? ⟨rb, k, none⟩ = some (.int .i64 c.runs)) [27] (i := 22) (v := ?_) rfl (by kernel_rfl) (by kernel_rfl) (by kernel_rfl) (by kernel_rfl) (fun _ _ _ h => h) (fun j w' hl _ hL h => h (fun hm => by simp only [List.mem_cons, List.mem_nil_iff, or_false] at hm hL; rcases hm with rfl | rfl <;> first | exact hL rfl | exact absurd hl (by decide))) (fun w' h _ => h) (Or.inl ⟨by rfl, ?_⟩) hS0 ?_; rotate_left; · (intro w hSw; (try dsimp only at hSw); obtain ⟨s0, s1, s2, s3, s4, s5, s6⟩ := hSw; go_simp; try with_reducible rfl)
      simp only [Act.put]
      have hcr : wr.drew.cell? ⟨rb, k, none⟩ = some (.int .i64 c.runs) := cr
      clear c4 c5 c6 c7 c8 m3 cr hS0
      refine wpAnyC_one (i := 23) (by kernel_rfl) rfl (fun K hK => ?_)
      go_simp
      refine (load_walk ⟨rb, k, none⟩ _ _ hcr).mono ?_
      rintro e w' ⟨rfl, rfl⟩
      refine hK.out _ _ (fun _ => HC.out _ hb.drew) ?_
      clear hK K
      refine wpAnyC_one (i := 24) (by kernel_rfl) rfl (fun K hK => ?_)
      go_simp
      refine hK.out _ _ (fun _ => HC.out _ hb.drew) ?_
      clear hK K
      refine wpAnyC_one (i := 25) (by kernel_rfl) rfl (fun K hK => ?_)
      go_simp
      have hb6 : Below w.heap.size w (wr.alloc (.cells #[.int .i64 c.n, .int .i64 c.e, .bool c.ran, .slice Ad c.deps.length cd, .int .i64 c.since, .int .i64 c.runs] 92)).drew := (hb.alloc hb.size _).drew
      have hB6 : Blk (wr.alloc (.cells #[.int .i64 c.n, .int .i64 c.e, .bool c.ran, .slice Ad c.deps.length cd, .int .i64 c.since, .int .i64 c.runs] 92)).drew wr.heap.size 92 #[.int .i64 c.n, .int .i64 c.e, .bool c.ran, .slice Ad c.deps.length cd, .int .i64 c.since, .int .i64 c.runs] := Blk.new _ _ _
      have own6 : World.ownsRow (wr.alloc (.cells #[.int .i64 c.n, .int .i64 c.e, .bool c.ran, .slice Ad c.deps.length cd, .int .i64 c.since, .int .i64 c.runs] 92)).drew w.heap.size 92 6 _ k (keptCells s vd k) := hown.alloc _
      have hz6 := hb6.size
      obtain ⟨T, hT⟩ : ∃ T, T = wr.heap.size := ⟨_, rfl⟩
      rw [← hT] at hB6 ⊢
      clear hT hown hb hcr
      generalize (wr.alloc (.cells #[.int .i64 c.n, .int .i64 c.e, .bool c.ran, .slice Ad c.deps.length cd, .int .i64 c.since, .int .i64 c.runs] 92)).drew = w6 at *
      refine hK.out _ _ (fun _ => HC.out _ hb6) ?_
      clear hK K
      refine wpAnyC_one (i := 26) (by kernel_rfl) rfl (fun K hK => ?_)
      refine step_append_lies _ (by rfl) _ _ _ (by rfl) w.heap.size 92 ip _ 6 64 Tryd.underlying87 ji jz0 jz1 jz2 rfl (by omega) _ k (keptCells s vd k) (by rfl) own6 ⟨T, 0, none⟩ 1 1 [.int .i64 c.n, .int .i64 c.e, .bool c.ran, .slice Ad c.deps.length cd, .int .i64 c.since, .int .i64 c.runs] (by rfl) (by rfl) (World.news_of_block (cs := #[.int .i64 c.n, .int .i64 c.e, .bool c.ran, .slice Ad c.deps.length cd, .int .i64 c.since, .int .i64 c.runs]) (t := 92) (fr := (0, 0)) hB6) (by simp [Value.oneCell']) (by omega) (by unfold maxLen; omega) (by omega) hz6 _ rfl ?_; intro g1 cap1 w7 own1 hgrow hat1 hlt1
      have hb7 := hb6.grown hgrow hz6 fun g hg => (own6.lt g hg).1
      refine hK.out _ _ (fun _ => HC.out _ hb7) ?_
      clear hK K
      refine wpAnyC_one (i := 27) (by kernel_rfl) rfl (fun K hK => ?_)
      go_simp
      refine hK.out _ _ (fun h => absurd (by simp) h) ?_
      clear hK K
      refine wpAnyC_done (by kernel_rfl) ?_ _
      clear own6 hB6 hb6 hgrow hat1 hlt1
      go_wp2_with fail
      go_roundw
      case rel => exact ⟨k + 1, by go_num, by omega, by rw [HKC.out]; exact own1, hb7⟩
      case measure => simp [intOf]; omega
    · have i3 : decide (k < ps.length) = false := by simpa using hlt
      have hke : k = ps.length := by omega
      rw [hke] at hown
      have HB := Lib.hid hb
      have HO := Lib.hid hown
      clear hke hb hown
      go_wp2_with fail
      go_ret
      exact ⟨_, rfl, HO.out, HB.out⟩
end Go.Proofs.YtnadldoebfmgmaaDoor.q
