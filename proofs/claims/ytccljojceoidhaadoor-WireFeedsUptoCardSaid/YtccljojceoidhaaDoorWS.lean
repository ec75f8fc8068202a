/-
  THE WALK of the reader's step.
-/
import Derived.Test.YtccljojceoidhaaDoorWL
import Derived.Test.YtccljojceoidhaaDoorRegG
import Derived.Deep.DeepCutAuto
namespace Go.Proofs.YtccljojceoidhaaDoor
open Go.RowKit

/-- a reader, and the row of what came out -/
structure StAt (w : World) (base H p q : Nat) (r : Wire.RS) (v : Value) (o : List Bs) : Prop where
  rd : Blk w p 75 (rdC r)
  out : Blk w q 22 #[v]
  own : w.ownsRow H 9 1 v o.length (txtV o)
  hp : base ≤ p
  hq : H ≤ q
  hH : base ≤ H
  hv : o = [] → v = .slice none 0 0
/-- of what was there below H only the reader has turned -/
def OthH (H p : Nat) (w w' : World) : Prop := ∀ b, b < H → b ≠ p → w'.heap[b]? = w.heap[b]?
theorem OthH.refl (H p : Nat) (w : World) : OthH H p w w := fun _ _ _ => rfl
theorem OthH.trans {H p : Nat} {w w1 w2 : World} (h : OthH H p w w1) (h' : OthH H p w1 w2) : OthH H p w w2 := fun b hb hn => (h' b hb hn).trans (h b hb hn)
section
variable {w w' : World} {base H p q : Nat} {r : Wire.RS} {v : Value} {o : List Bs}
theorem StAt.le (h : StAt w base H p q r v o) : H ≤ w.heap.size := Nat.le_of_lt (Nat.lt_of_le_of_lt h.hq h.out.lt)
theorem StAt.ne (h : StAt w base H p q r v o) : p ≠ q := fun e => by
  have h1 := h.rd; have h2 := h.out
  unfold Blk at h1 h2
  rw [e, h2] at h1
  injection h1 with h1
  injection h1 with _ h1 _
  exact absurd h1 (by decide)
theorem StAt.below (h : StAt w base H p q r v o) (hb : Below w.heap.size w w') : StAt w' base H p q r v o :=
  ⟨h.rd.below hb h.rd.lt, h.out.below hb h.out.lt, own_of_block h.own fun k hk => hb.block k (h.own.lt k hk).2, h.hp, h.hq, h.hH, h.hv⟩
theorem StAt.drewN (h : StAt w base H p q r v o) (n : Nat) : StAt (w.drewN n) base H p q r v o := ⟨h.rd, h.out, h.own, h.hp, h.hq, h.hH, h.hv⟩
/-- the reader alone has turned -/
theorem StAt.turn (h : StAt w base H p q r v o) {r' : Wire.RS} (ho : Oth1 p w w') (hr : Blk w' p 75 (rdC r')) : StAt w' base H p q r' v o :=
  ⟨hr, (ho q h.out.lt (Ne.symm h.ne)).trans h.out, own_of_block h.own fun k hk => ho k (h.own.lt k hk).2 fun e => by
    have := own_ne h.own h.rd (by decide)
    exact this (by rw [hk, e]), h.hp, h.hq, h.hH, h.hv⟩
theorem StAt.set (h : StAt w base H p q r v o) {r' : Wire.RS} (j : Nat) (u : Value) (e : (rdC r).setIfInBounds j u = rdC r') : StAt (w.setCell ⟨p, j, none⟩ u) base H p q r' v o :=
  h.turn (Oth1.set w j u) (e ▸ h.rd.set_ j u)
theorem oth_set (hz : H ≤ w.heap.size) (j : Nat) (u : Value) : OthH H p w (w.setCell ⟨p, j, none⟩ u) := fun b hb hn => Oth1.set w j u b (by omega) hn
theorem oth_below (hz : H ≤ w.heap.size) (h : Below w.heap.size w w') : OthH H p w w' := fun b hb _ => h.block b (by omega)
theorem oth_1 (hz : H ≤ w.heap.size) (h : Oth1 p w w') : OthH H p w w' := fun b hb hn => h b (by omega) hn
end

/-- what a step owes -/
def StepP (w : World) (base H p q : Nat) (r : Wire.RS) (o : List Bs) (e : Ending) (w' : World) : Prop :=
  e = .returned (.bool (Wire.stepM r).2.2) ∧ (∃ v', StAt w' base H p q (Wire.stepM r).1 v' (o ++ (Wire.stepM r).2.1.toList)) ∧ Below base w w' ∧ OthH H p w w'

theorem sclone_walk (s : ByteArray) (w : World) (hs : s.size ≤ 100000000) : Calls Tryd.prog 63 #[.string s] w fun e w' => e = .returned (.string s) ∧ Below w.heap.size w w' := by
  have hC := Tryd.stringslite_Clone s w (by omega)
  go_enter Tryd.func63, Tryd.ntmps63
  go_wp2_with fail
  refine hC.mono ?_
  rintro e w' ⟨rfl, hb⟩
  go_wp2_with fail
  go_ret
  exact ⟨rfl, hb⟩

section
variable (w : World) (base H p q : Nat) (r : Wire.RS) (v : Value) (o : List Bs)

set_option maxRecDepth 100000 in
theorem step_wait (h : StAt w base H p q r v o) (hb : r.body = true) (hl : (r.rest.length : Int) < r.len) :
    Calls Tryd.prog 40 #[.pointer (some ⟨p, 0, none⟩), .pointer (some ⟨q, 0, none⟩)] w (StepP w base H p q r o) := by
  have he : Wire.stepM r = (r, none, false) := by unfold Wire.stepM; rw [hb]; simp [hl]
  unfold StepP
  rw [he]
  have c0 := h.rd.cell 0
  have c1 := h.rd.cell 1
  have c2 := h.rd.cell 2
  unfold rdC strV at c0 c1 c2
  simp at c0 c1 c2
  rw [hb] at c2
  go_enter Tryd.func40, Tryd.ntmps40
  go_wp2_with fail
  go_quiet (fail)
  go_wp2_with fail
  go_ret
  exact ⟨rfl, ⟨v, by simpa using h.drewN _⟩, below_drewN (Below.refl _ _) _, OthH.refl _ _ _⟩

set_option maxRecDepth 100000 in
theorem step_miss (m : Int) (hM : MaxL w m) (h : StAt w base H p q r v o) (hb : r.body = false) (hl : r.rest.length ≤ 100000000) (hc : (Lib.cut r.rest Wire.crlf).2.2 = false) :
    Calls Tryd.prog 40 #[.pointer (some ⟨p, 0, none⟩), .pointer (some ⟨q, 0, none⟩)] w (StepP w base H p q r o) := by
  obtain ⟨rest, len, body, er⟩ := r
  simp only at hb hl hc
  subst hb
  have c0 := h.rd.cell 0
  have c2 := h.rd.cell 2
  have c3 := h.rd.cell 3
  have f3 := h.rd.frozen 3
  have hC := lcut_walk rest m w hM hl
  have hT := fun w => trims_walk rest w hl
  rw [hc] at hC
  unfold rdC strV at c0 c2 c3
  simp at c0 c2 c3
  by_cases hx : 1000 < (Lib.trimSuffix rest [13]).length
  · have he : Wire.stepM ⟨rest, len, false, er⟩ = (⟨rest, len, false, 12⟩, none, false) := by unfold Wire.stepM; simp [hc, hx]
    unfold StepP
    rw [he]
    have h3 := fun n => (h.drewN n).set (r' := ⟨rest, len, false, 12⟩) 3 (.int .i64 12) rfl
    go_enter Tryd.func40, Tryd.ntmps40
    go_wp2_with fail
    refine hC.mono ?_
    rintro e w' ⟨rfl, n, rfl⟩
    go_wp2_with fail
    refine (hT _).mono ?_
    rintro e w' ⟨rfl, rfl⟩
    go_wp2_with fail
    go_ret
    exact ⟨rfl, ⟨v, by simpa using h3 n⟩, (below_drewN (Below.refl _ _) n).setCell (p := ⟨p, 3, none⟩) h.hp _, oth_set (w := w.drewN n) h.le _ _⟩
  · have he : Wire.stepM ⟨rest, len, false, er⟩ = (⟨rest, len, false, er⟩, none, false) := by unfold Wire.stepM; simp [hc, hx]
    unfold StepP
    rw [he]
    go_enter Tryd.func40, Tryd.ntmps40
    go_wp2_with fail
    refine hC.mono ?_
    rintro e w' ⟨rfl, n, rfl⟩
    go_wp2_with fail
    refine (hT _).mono ?_
    rintro e w' ⟨rfl, rfl⟩
    go_wp2_with fail
    go_ret
    exact ⟨rfl, ⟨v, by simpa using h.drewN n⟩, below_drewN (Below.refl _ _) n, OthH.refl _ _ _⟩

set_option maxHeartbeats 1000000 in
set_option maxRecDepth 100000 in
theorem step_line (m : Int) (hM : MaxL w m) (h : StAt w base H p q r v o) (hgb : 3 < base) (hb : r.body = false) (hl : r.rest.length ≤ 100000000) (hc : (Lib.cut r.rest Wire.crlf).2.2 = true) :
    Calls Tryd.prog 40 #[.pointer (some ⟨p, 0, none⟩), .pointer (some ⟨q, 0, none⟩)] w (StepP w base H p q r o) := by
  obtain ⟨rest, len, body, er⟩ := r
  simp only at hb hl hc
  subst hb
  have hlen := Wire.cut_len rest hc
  have hC := lcut_walk rest m w hM hl
  rw [hc] at hC
  have he : Wire.stepM ⟨rest, len, false, er⟩ = (Wire.lineM (Lib.cut rest Wire.crlf).1 ⟨(Lib.cut rest Wire.crlf).2.1, len, false, er⟩, none, (Wire.lineM (Lib.cut rest Wire.crlf).1 ⟨(Lib.cut rest Wire.crlf).2.1, len, false, er⟩).err == 0) := by unfold Wire.stepM; simp [hc]
  unfold StepP
  rw [he]
  clear he hc
  generalize Lib.cut rest Wire.crlf = C at *
  obtain ⟨x, y, z⟩ := C
  simp only at hlen hC ⊢
  have c0 := h.rd.cell 0
  have c2 := h.rd.cell 2
  have f0 := h.rd.frozen 0
  unfold rdC strV at c0 c2
  simp at c0 c2
  have h1 := fun n => (h.drewN n).set (r' := ⟨y, len, false, er⟩) 0 (strV y) rfl
  have hL := fun n => line_walk p base x ⟨y, len, false, er⟩ ((w.drewN n).setCell ⟨p, 0, none⟩ (strV y)) m (hM.below ((below_drewN (Below.refl base w) n).setCell (p := ⟨p, 0, none⟩) h.hp _) hgb) (h1 n).rd h.hp (by simp; exact Nat.le_trans h.hH h.le) (by omega)
  unfold LineP at hL
  generalize hLM : Wire.lineM x ⟨y, len, false, er⟩ = LM at *
  have HLM := Lib.hid hLM
  clear hLM
  unfold strV at hL h1
  have HL := Lib.hid hL
  have H1 := Lib.hid h1
  clear hL h1
  go_enter Tryd.func40, Tryd.ntmps40
  go_wp2_with fail
  refine hC.mono ?_
  clear hC
  rintro e w' ⟨rfl, n, rfl⟩
  go_wp2_with fail
  refine (HL.out n).mono ?_
  rintro e w2 ⟨rfl, hB2, hb2, ho2⟩
  have h2 := (H1.out n).turn ho2 hB2
  have c3 := h2.rd.cell 3
  have f3 := h2.rd.frozen 3
  unfold rdC at c3
  simp at c3
  have h3 := h2.set (r' := LM) 3 (.int .i64 LM.err) rfl
  have hz2 : H ≤ w2.heap.size := h2.le
  have hfin : Hid (Below base w (w2.setCell ⟨p, 3, none⟩ (.int .i64 LM.err)) ∧ OthH H p w (w2.setCell ⟨p, 3, none⟩ (.int .i64 LM.err))) :=
    ⟨(((below_drewN (Below.refl base w) n).setCell (p := ⟨p, 0, none⟩) h.hp _).trans hb2).setCell (p := ⟨p, 3, none⟩) h.hp _, ((OthH.trans (oth_set (w := w.drewN n) h.le _ _) (oth_1 (by simp; exact h.le) ho2))).trans (oth_set hz2 _ _)⟩
  clear hB2 hb2 ho2
  go_wp2_with fail
  go_ret
  refine ⟨?_, ⟨v, by simpa using h3⟩, hfin.out.1, hfin.out.2⟩
  first | rfl | simp

set_option maxHeartbeats 2000000 in
set_option maxRecDepth 100000 in
theorem step_body (h : StAt w base H p q r v o) (hb : r.body = true) (hl : r.rest.length ≤ 100000000) (n : Nat) (hn : r.len = n) (hle : n ≤ r.rest.length) (hol : o.length ≤ 1000000000) :
    Calls Tryd.prog 40 #[.pointer (some ⟨p, 0, none⟩), .pointer (some ⟨q, 0, none⟩)] w (StepP w base H p q r o) := by
  obtain ⟨i0, ji, jz0, jz1, jz2⟩ := info_parts infoStr
  obtain ⟨rest, len, body, er⟩ := r
  simp only at hb hl hn hle
  subst hb hn
  have he : Wire.stepM ⟨rest, (n : Nat), true, er⟩ = (⟨rest.drop n, -1, false, er⟩, some (rest.take n), true) := by
    unfold Wire.stepM
    simp only [if_true]
    rw [if_neg (by omega)]
    simp
  unfold StepP
  rw [he]
  clear he
  have c0 := h.rd.cell 0
  have c1 := h.rd.cell 1
  have c2 := h.rd.cell 2
  unfold rdC strV at c0 c1 c2
  simp at c0 c1 c2
  have e1 : ¬ (rest.length : Int) < (n : Int) := by omega
  have hX : Hid (Value.string ((⟨rest.toArray⟩ : ByteArray).extract 0 n) = strV (rest.take n)) := ext_str rest 0 n
  have hY : Hid (Value.string ((⟨rest.toArray⟩ : ByteArray).extract n rest.length) = strV (rest.drop n)) := by
    show _ = _
    rw [ext_str, List.take_length]
  have hXs : ((⟨rest.toArray⟩ : ByteArray).extract 0 n).size ≤ 100000000 := by
    have : (⟨rest.toArray⟩ : ByteArray).size = rest.length := mk_size rest
    rw [ByteArray.size_extract, this]; omega
  go_enter Tryd.func40, Tryd.ntmps40
  go_wp2_with fail
  go_quiet (fail)
  rename_i nq
  have h1 := h.drewN nq
  have hz1 : H ≤ (w.drewN nq).heap.size := h.le
  have hbW : Below base w (w.drewN nq) := below_drewN (Below.refl _ _) nq
  have hoW : Hid (OthH H p w (w.drewN nq)) := OthH.refl H p w
  generalize w.drewN nq = w1 at *
  clear c0 c1 c2
  have c0 := h1.rd.cell 0
  have c1 := h1.rd.cell 1
  have cq := h1.out.cell 0
  unfold rdC strV at c0 c1
  simp at c0 c1 cq
  go_upto_region 4 with fail
  refine wp_region_G 17 (fun w' => w'.cell? ⟨q, 0, none⟩ = some v ∧ w'.cell? ⟨p, 0, none⟩ = some (.string ⟨rest.toArray⟩) ∧ w'.cell? ⟨p, 1, none⟩ = some (.int .i64 n)) (by kernel_rfl) ?_
  have hS0 : (fun w' : World => w'.cell? ⟨q, 0, none⟩ = some v ∧ w'.cell? ⟨p, 0, none⟩ = some (.string ⟨rest.toArray⟩) ∧ w'.cell? ⟨p, 1, none⟩ = some (.int .i64 n)) w1.drew := ⟨cq, c0, c1⟩
  refine wpAnyG_take (i := 0) (v := ?_) rfl (by kernel_rfl) (by kernel_rfl) (by kernel_rfl) (by kernel_rfl) (fun _ _ _ h => h) (Or.inl ⟨by rfl, ?_⟩) hS0 ?_; rotate_left; · (intro w hSw; (try dsimp only at hSw); obtain ⟨s0, s1, s2⟩ := hSw; go_simp; try with_reducible rfl)
  simp only [Act.put, List.setIfInBounds_toArray]
  refine wpAnyG_take (i := 1) (v := ?_) rfl (by kernel_rfl) (by kernel_rfl) (by kernel_rfl) (by kernel_rfl) (fun _ _ _ h => h) (Or.inl ⟨by rfl, ?_⟩) hS0 ?_; rotate_left; · (intro w hSw; (try dsimp only at hSw); obtain ⟨s0, s1, s2⟩ := hSw; go_simp; try with_reducible rfl)
  simp only [Act.put]
  refine wpAnyG_take (i := 2) (v := ?_) rfl (by kernel_rfl) (by kernel_rfl) (by kernel_rfl) (by kernel_rfl) (fun _ _ _ h => h) (Or.inl ⟨by rfl, ?_⟩) hS0 ?_; rotate_left; · (intro w hSw; (try dsimp only at hSw); obtain ⟨s0, s1, s2⟩ := hSw; go_simp; try with_reducible rfl)
  simp only [Act.put]
  refine wpAnyG_take (i := 3) (v := ?_) rfl (by kernel_rfl) (by kernel_rfl) (by kernel_rfl) (by kernel_rfl) (fun _ _ _ h => h) (Or.inl ⟨by rfl, ?_⟩) hS0 ?_; rotate_left; · (intro w hSw; (try dsimp only at hSw); obtain ⟨s0, s1, s2⟩ := hSw; go_simp; try with_reducible rfl)
  simp only [Act.put]
  refine wpAnyG_take (i := 4) (v := ?_) rfl (by kernel_rfl) (by kernel_rfl) (by kernel_rfl) (by kernel_rfl) (fun _ _ _ h => h) (Or.inl ⟨by rfl, ?_⟩) hS0 ?_; rotate_left; · (intro w hSw; (try dsimp only at hSw); obtain ⟨s0, s1, s2⟩ := hSw; go_simp; try with_reducible rfl)
  simp only [Act.put]
  refine wpAnyG_take (i := 5) (v := ?_) rfl (by kernel_rfl) (by kernel_rfl) (by kernel_rfl) (by kernel_rfl) (fun _ _ _ h => h) (Or.inl ⟨by rfl, ?_⟩) hS0 ?_; rotate_left; · (intro w hSw; (try dsimp only at hSw); obtain ⟨s0, s1, s2⟩ := hSw; go_simp; try with_reducible rfl)
  simp only [Act.put]
  refine wpAnyG_take (i := 6) (v := ?_) rfl (by kernel_rfl) (by kernel_rfl) (by kernel_rfl) (by kernel_rfl) (fun _ _ _ h => h) (Or.inl ⟨by rfl, ?_⟩) hS0 ?_; rotate_left; · (intro w hSw; (try dsimp only at hSw); obtain ⟨s0, s1, s2⟩ := hSw; go_simp; try with_reducible rfl)
  simp only [Act.put]
  refine wpAnyG_take (i := 7) (v := ?_) rfl (by kernel_rfl) (by kernel_rfl) (by kernel_rfl) (by kernel_rfl) (fun _ _ _ h => h) (Or.inl ⟨by rfl, ?_⟩) hS0 ?_; rotate_left; · (intro w hSw; (try dsimp only at hSw); obtain ⟨s0, s1, s2⟩ := hSw; go_simp; try with_reducible rfl)
  simp only [Act.put]
  refine wpAnyG_take (i := 8) (v := ?_) rfl (by kernel_rfl) (by kernel_rfl) (by kernel_rfl) (by kernel_rfl) (fun _ _ _ h => h) (Or.inl ⟨by rfl, ?_⟩) hS0 ?_; rotate_left; · (intro w hSw; (try dsimp only at hSw); obtain ⟨s0, s1, s2⟩ := hSw; go_simp; try with_reducible rfl)
  simp only [Act.put]
  refine wpAnyG_take (i := 9) (v := ?_) rfl (by kernel_rfl) (by kernel_rfl) (by kernel_rfl) (by kernel_rfl) (fun _ _ _ h => h) (Or.inl ⟨by rfl, ?_⟩) hS0 ?_; rotate_left; · (intro w hSw; (try dsimp only at hSw); obtain ⟨s0, s1, s2⟩ := hSw; go_simp; try with_reducible rfl)
  simp only [Act.put]
  refine wpAnyG_take (i := 10) (v := ?_) rfl (by kernel_rfl) (by kernel_rfl) (by kernel_rfl) (by kernel_rfl) (fun _ _ _ h => h) (Or.inl ⟨by rfl, ?_⟩) hS0 ?_; rotate_left; · (intro w hSw; (try dsimp only at hSw); obtain ⟨s0, s1, s2⟩ := hSw; go_simp; try with_reducible rfl)
  simp only [Act.put]
  refine wpAnyG_take (i := 11) (v := ?_) rfl (by kernel_rfl) (by kernel_rfl) (by kernel_rfl) (by kernel_rfl) (fun _ _ _ h => h) (Or.inl ⟨by rfl, ?_⟩) hS0 ?_; rotate_left; · (intro w hSw; (try dsimp only at hSw); obtain ⟨s0, s1, s2⟩ := hSw; go_simp; try with_reducible rfl)
  simp only [Act.put]
  refine wpAnyG_take (i := 12) (v := ?_) rfl (by kernel_rfl) (by kernel_rfl) (by kernel_rfl) (by kernel_rfl) (fun _ _ _ h => h) (Or.inl ⟨by rfl, ?_⟩) hS0 ?_; rotate_left; · (intro w hSw; (try dsimp only at hSw); obtain ⟨s0, s1, s2⟩ := hSw; go_simp; try with_reducible rfl)
  simp only [Act.put]
  refine wpAnyG_one (i := 13) (by kernel_rfl) rfl (fun K hK => ?_)
  go_simp
  generalize (⟨rest.toArray⟩ : ByteArray).extract 0 n = X at *
  refine (sclone_walk X _ hXs).mono ?_
  rintro e w2 ⟨rfl, hb2⟩
  have h2 := (h1.drewN 1).below hb2
  have hz2 := h2.le
  have hbW2 := hbW.trans ((below_drewN (Below.refl base w1) 1).trans (hb2.mono (Nat.le_trans h.hH hz1)))
  have hoW2 : Hid (OthH H p w w2) := hoW.out.trans (oth_below (w := w1.drewN 1) hz1 hb2)
  clear hbW hoW hb2 hS0 c0 c1 cq
  have c0 := h2.rd.cell 0
  have c1 := h2.rd.cell 1
  have cq := h2.out.cell 0
  unfold rdC strV at c0 c1
  simp at c0 c1 cq
  have hpl := h2.rd.lt
  have hql := h2.out.lt
  refine hK.out _ _ (fun _ => ⟨cq, c0, c1⟩) ?_
  clear hK K
  refine wpAnyG_one (i := 14) (by kernel_rfl) rfl (fun K hK => ?_)
  go_simp
  refine hK.out _ _ (fun _ => ⟨(cell_alloc _ _ _ _ hql).trans cq, (cell_alloc _ _ _ _ hpl).trans c0, (cell_alloc _ _ _ _ hpl).trans c1⟩) ?_
  clear hK K
  refine wpAnyG_one (i := 15) (by kernel_rfl) rfl (fun K hK => ?_)
  have hnp := own_ne h2.own h2.rd (by decide)
  have hnq := own_ne h2.own h2.out (by decide)
  refine step_append_lies _ (by rfl) _ _ _ (by rfl) H 9 i0 _ 1 16 Tryd.underlying22 ji jz0 jz1 jz2 rfl (by omega) v o.length (txtV o) (by rfl) (h2.own.alloc (.cells #[.string X] 9)) ⟨w2.heap.size, 0, none⟩ 1 1 [.string X] (by rfl) (by rfl) (World.news_of_block (cs := #[.string X]) (t := 9) (fr := (0, 0)) (heap_alloc_new w2 _)) (by simp [Value.oneCell']) (by omega) (by unfold maxLen; omega) (by omega) (by simp; omega) (w2.heap.size + 1) (by simp) ?_; intro gg cap' w3 hown3 hgrow hat hlt
  have hP3 := (h2.rd.alloc (.cells #[.string X] 9)).grown hgrow hnp
  have hQ3 := (h2.out.alloc (.cells #[.string X] 9)).grown hgrow hnq
  have hbW3 : Below base w w3 := (hbW2.alloc (Nat.le_trans h.hH hz2) (.cells #[.string X] 9)).grown hgrow (by simp; have := h.hH; omega) (fun g hg => Nat.le_trans h.hH (h2.own.lt g hg).1)
  have hoW3 : Hid (OthH H p w w3) := hoW2.out.trans fun b hb hnb => (hgrow.block b (by simp; omega) (fun e => by have := (h2.own.lt b e.symm).1; omega)).trans (Below.heap_alloc _ _ b (by omega))
  have h3 : Blk (w3.setCell ⟨q, 0, none⟩ (.slice (some ⟨gg, 0, none⟩) (o.length + 1) cap')) q 22 #[.slice (some ⟨gg, 0, none⟩) (o.length + 1) cap'] := hQ3.set_ 0 _
  clear c0 c1 cq
  have c0 := hP3.cell 0
  have c1 := hP3.cell 1
  have cq := hQ3.cell 0
  have fq := hQ3.frozen 0
  unfold rdC strV at c0 c1
  simp at c0 c1 cq
  refine hK.out _ _ (fun _ => ⟨cq, c0, c1⟩) ?_
  clear hK K
  refine wpAnyG_one (i := 16) (by kernel_rfl) rfl (fun K hK => ?_)
  go_simp
  refine hK.out _ _ (fun _ => ⟨cq, c0, c1⟩) ?_
  clear hK K
  refine wpAnyG_one (i := 17) (by kernel_rfl) rfl (fun K hK => ?_)
  go_simp
  refine hK.out _ _ (fun h => absurd rfl h) ?_
  clear hK K
  refine wpAnyG_done (by kernel_rfl) ?_ _
  have hP4 : Blk (w3.setCell ⟨q, 0, none⟩ (.slice (some ⟨gg, 0, none⟩) (o.length + 1) cap')) p 75 (rdC ⟨rest, n, true, er⟩) := hP3.far (p := ⟨q, 0, none⟩) h2.ne _
  have hO4 : (w3.setCell ⟨q, 0, none⟩ (.slice (some ⟨gg, 0, none⟩) (o.length + 1) cap')).ownsRow H 9 1 (.slice (some ⟨gg, 0, none⟩) (o.length + 1) cap') (o.length + 1) (txtV o ++ [.string X]) :=
    own_of_block hown3 fun k hk => Below.heap_setCell _ _ _ _ fun e => by
      have := own_ne hown3 hQ3 (by decide)
      exact this (by rw [hk, show q = k from e.symm])
  have hS4 : StAt (w3.setCell ⟨q, 0, none⟩ (.slice (some ⟨gg, 0, none⟩) (o.length + 1) cap')) base H p q ⟨rest, n, true, er⟩ (.slice (some ⟨gg, 0, none⟩) (o.length + 1) cap') (o ++ [rest.take n]) :=
    ⟨hP4, h3, by rw [txtV_snoc, List.length_append, ← hX.out]; exact hO4, h.hp, h.hq, h.hH, fun e => by simp at e⟩
  have hbW4 : Below base w (w3.setCell ⟨q, 0, none⟩ (.slice (some ⟨gg, 0, none⟩) (o.length + 1) cap')) := hbW3.setCell (p := ⟨q, 0, none⟩) (Nat.le_trans h.hH h.hq) _
  have hoW4 : Hid (OthH H p w (w3.setCell ⟨q, 0, none⟩ (.slice (some ⟨gg, 0, none⟩) (o.length + 1) cap'))) := hoW3.out.trans fun b hb _ => Below.heap_setCell _ _ _ _ fun e => by have h5 : b = q := e; have := h.hq; omega
  generalize w3.setCell ⟨q, 0, none⟩ (.slice (some ⟨gg, 0, none⟩) (o.length + 1) cap') = w4 at *
  generalize Value.slice (some ⟨gg, 0, none⟩) (o.length + 1) cap' = v4 at *
  have H4 := Lib.hid hS4
  have f0 := hS4.rd.frozen 0
  have f1 := hS4.rd.frozen 1
  have f2 := hS4.rd.frozen 2
  clear c0 c1 cq fq hS4 hP4 hO4 h3 hP3 hQ3 hown3 hbW3 hoW3 hbW2 hoW2 hgrow hat hlt hnp hnq h2 h1
  have c0 := H4.out.rd.cell 0
  have c1 := H4.out.rd.cell 1
  have c2 := H4.out.rd.cell 2
  unfold rdC strV at c0 c1 c2
  simp at c0 c1 c2
  go_wp2_with fail
  go_region
  go_wp2_with fail
  go_ret
  have S3 := ((H4.out.set (r' := ⟨rest.drop n, n, true, er⟩) 0 (.string ((⟨rest.toArray⟩ : ByteArray).extract n rest.length)) (by rw [hY.out]; rfl)).set (r' := ⟨rest.drop n, n, false, er⟩) 2 (.bool false) rfl).set (r' := ⟨rest.drop n, -1, false, er⟩) 1 (.int .i64 (-1)) rfl
  have hz4 := H4.out.le
  have B3 := ((hbW4.setCell (p := ⟨p, 0, none⟩) h.hp (.string ((⟨rest.toArray⟩ : ByteArray).extract n rest.length))).setCell (p := ⟨p, 2, none⟩) h.hp (.bool false)).setCell (p := ⟨p, 1, none⟩) h.hp (.int .i64 (-1))
  have O3 := ((hoW4.out.trans (oth_set hz4 0 (.string ((⟨rest.toArray⟩ : ByteArray).extract n rest.length)))).trans (oth_set (by simp; exact hz4) 2 (.bool false))).trans (oth_set (by simp; exact hz4) 1 (.int .i64 (-1)))
  refine ⟨rfl, ⟨v4, ?_⟩, ?_, ?_⟩
  · simpa using (show StAt (((w4.setCell ⟨p, 0, none⟩ (.string ((⟨rest.toArray⟩ : ByteArray).extract n rest.length))).setCell ⟨p, 2, none⟩ (.bool false)).setCell ⟨p, 1, none⟩ (.int .i64 (-1))).drew _ _ _ _ _ _ _ from S3.drewN 1)
  · exact below_drewN B3 1
  · exact O3

theorem step_walk (m : Int) (hM : MaxL w m) (h : StAt w base H p q r v o) (hgb : 3 < base) (hg : r.good) (hl : r.rest.length ≤ 100000000) (hol : o.length ≤ 1000000000) :
    Calls Tryd.prog 40 #[.pointer (some ⟨p, 0, none⟩), .pointer (some ⟨q, 0, none⟩)] w (StepP w base H p q r o) := by
  cases hb : r.body with
  | true =>
    have h0 := hg.2.2 hb
    by_cases hlt : (r.rest.length : Int) < r.len
    · exact step_wait w base H p q r v o h hb hlt
    · exact step_body w base H p q r v o h hb hl r.len.toNat (by omega) (by omega) hol
  | false =>
    cases hc : (Lib.cut r.rest Wire.crlf).2.2 with
    | true => exact step_line w base H p q r v o m hM h hgb hb hl hc
    | false => exact step_miss w base H p q r v o m hM h hb hl hc
end
end Go.Proofs.YtccljojceoidhaaDoor
