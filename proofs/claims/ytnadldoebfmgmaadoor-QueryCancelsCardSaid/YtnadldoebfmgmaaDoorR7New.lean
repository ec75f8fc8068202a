/-
  THE WALK of amanuensisref7.New: seven slices are made in whatever order.
-/
import Derived.Test.YtnadldoebfmgmaaDoorRegJ
import Derived.Test.YtnadldoebfmgmaaDoorQTP
import Derived.Deep.OwnRows
namespace Go.Proofs.YtnadldoebfmgmaaDoor.q
open Go.RowKit

def oCells (vs : List Int) : List Value := vs.flatMap fun v => [.int .i64 v, .bool false]
/-- a slice's value that owns a new row -/
def RowN (w : World) (H n : Nat) (e : TypeId) (cs : Array Value) (v : Value) : Prop := ∃ g, v = .slice (some ⟨g, 0, none⟩) n n ∧ Blk w g e cs ∧ H ≤ g
/-- the reference's sheet in memory -/
structure RefAt (w : World) (H1 H2 rp : Nat) (l : List Ru) (vs : List Int) (vR vI vF x2 x3 x4 x6 x7 : Value) : Prop where
  blk : Blk w rp 82 #[vR, vI, x2, x3, x4, vF, x6, x7, .int .i64 (-1), .bool false]
  ru : w.ownsRow H1 83 4 vR l.length (ruCells l)
  is : w.ownsRow H1 35 2 vI l.length (oCells vs)
  fr : w.ownsRow H1 4 1 vF l.length (List.replicate l.length (.bool false))
  lo : H1 ≤ rp
  hi : rp < H2
  hr : ∀ k, vR.ownBlock = some k → k < H2
  hI : ∀ k, vI.ownBlock = some k → k < H2
  hF : ∀ k, vF.ownBlock = some k → k < H2
  vlen : vs.length = l.length
def Ref (w : World) (H1 H2 rp : Nat) (l : List Ru) (vs : List Int) : Prop := ∃ vR vI vF x2 x3 x4 x6 x7, RefAt w H1 H2 rp l vs vR vI vF x2 x3 x4 x6 x7
theorem Ref.keep {w w' : World} {H1 H2 rp : Nat} {l : List Ru} {vs : List Int} (h : Ref w H1 H2 rp l vs) (hk : ∀ j, H1 ≤ j → j < H2 → w'.heap[j]? = w.heap[j]?) : Ref w' H1 H2 rp l vs := by
  obtain ⟨vR, vI, vF, x2, x3, x4, x6, x7, h⟩ := h
  exact ⟨vR, vI, vF, x2, x3, x4, x6, x7, (hk _ h.lo h.hi).trans h.blk, own_of_block h.ru fun k e => hk k (h.ru.lt k e).1 (h.hr k e), own_of_block h.is fun k e => hk k (h.is.lt k e).1 (h.hI k e), own_of_block h.fr fun k e => hk k (h.fr.lt k e).1 (h.hF k e), h.lo, h.hi, h.hr, h.hI, h.hF, h.vlen⟩

theorem infoO : (Tryd.prog.info? 35).map (fun i => (i.zero, i.size, i.bytes)) = some (some (.agg #[.int .i64 0, .bool false]), 2, 16) := by kernel_rfl
theorem infoBool7 : (Tryd.prog.info? 4).map (fun i => (i.zero, i.size, i.bytes)) = some (some (.bool false), 1, 1) := by kernel_rfl
theorem infoIntS : (Tryd.prog.info? 23).map (fun i => (i.zero, i.size, i.bytes)) = some (some (.slice none 0 0), 1, 24) := by kernel_rfl
theorem infoOS : (Tryd.prog.info? 78).map (fun i => (i.zero, i.size, i.bytes)) = some (some (.slice none 0 0), 1, 24) := by kernel_rfl
theorem infoIntQ7 : (Tryd.prog.info? 3).map (fun i => (i.zero, i.size, i.bytes)) = some (some (.int .i64 0), 1, 8) := by kernel_rfl
/-- make: the run, whatever the element -/
theorem make_any {t e : TypeId} {z : Value} {size bytes : Nat} (ht : Tryd.prog.underlying t = some (.slice e)) (hinfo : (Tryd.prog.info? e).map (fun i => (i.zero, i.size, i.bytes)) = some (some z, size, bytes)) (n : Nat) (hn : n ≤ 1048576) (hb : bytes ≤ 64) (w : World) :
    (Instr.makeSlice t (.int .i64 (n : Int)) (.int .i64 (n : Int))).run Tryd.prog w = .ok (.slice (some ⟨w.heap.size, 0, none⟩) n n) (w.alloc (.cells (madeCells z.cells (n * size)) e)) := by
  obtain ⟨i, hi, hzz⟩ := Option.map_eq_some_iff.1 hinfo
  simp only [Prod.mk.injEq] at hzz
  obtain ⟨hz, hs, hb'⟩ := hzz
  have h1 : (i.bytes : Int) * (n : Int) ≤ 281474976710656 := by
    have h2 : i.bytes * n ≤ 64 * 1048576 := Nat.mul_le_mul (by omega) hn
    have h3 : ((i.bytes * n : Nat) : Int) ≤ 281474976710656 := by omega
    rwa [Int.natCast_mul] at h3
  have hr := run_make (P := Tryd.prog) w t e i _ ht hi hz .i64 .i64 n n (by omega) (Int.le_refl _) h1 (by omega)
  simp only [Int.toNat_natCast, hs] at hr
  exact hr
/-- what an operation's slot holds, once it is done -/
def R7 (n H : Nat) (vR : Value) (j : Nat) (v : Value) (w : World) : Prop :=
  if j = 0 then v = vR
  else if j = 2 then RowN w H n 35 (madeCells #[.int .i64 0, .bool false] (n * 2)) v
  else if j = 10 then RowN w H n 4 (madeCells #[.bool false] (n * 1)) v
  else if j = 15 then ∃ vI vF x2 x3 x4 x6 x7, v = .agg #[vR, vI, x2, x3, x4, vF, x6, x7, .int .i64 (-1), .bool false] ∧ RowN w H n 35 (madeCells #[.int .i64 0, .bool false] (n * 2)) vI ∧ RowN w H n 4 (madeCells #[.bool false] (n * 1)) vF
  else if j = 16 ∨ j = 17 then ∃ rp vI vF x2 x3 x4 x6 x7, v = .pointer (some ⟨rp, 0, none⟩) ∧ H ≤ rp ∧ Blk w rp 82 #[vR, vI, x2, x3, x4, vF, x6, x7, .int .i64 (-1), .bool false] ∧ RowN w H n 35 (madeCells #[.int .i64 0, .bool false] (n * 2)) vI ∧ RowN w H n 4 (madeCells #[.bool false] (n * 1)) vF
  else if j % 2 = 1 then v = .int .i64 n
  else ∃ g : Nat, v = .slice (some ⟨g, 0, none⟩) n n
section
variable {n H : Nat} {vR v : Value} {w : World}
theorem r7_2 : R7 n H vR 2 v w ↔ RowN w H n 35 (madeCells #[.int .i64 0, .bool false] (n * 2)) v := by unfold R7; rw [if_neg (by omega), if_pos rfl]
theorem r7_10 : R7 n H vR 10 v w ↔ RowN w H n 4 (madeCells #[.bool false] (n * 1)) v := by unfold R7; rw [if_neg (by omega), if_neg (by omega), if_pos rfl]
theorem r7_15 : R7 n H vR 15 v w ↔ ∃ vI vF x2 x3 x4 x6 x7, v = .agg #[vR, vI, x2, x3, x4, vF, x6, x7, .int .i64 (-1), .bool false] ∧ RowN w H n 35 (madeCells #[.int .i64 0, .bool false] (n * 2)) vI ∧ RowN w H n 4 (madeCells #[.bool false] (n * 1)) vF := by unfold R7; rw [if_neg (by omega), if_neg (by omega), if_neg (by omega), if_pos rfl]
def R7b (n H : Nat) (vR v : Value) (w : World) : Prop := ∃ rp vI vF x2 x3 x4 x6 x7, v = .pointer (some ⟨rp, 0, none⟩) ∧ H ≤ rp ∧ Blk w rp 82 #[vR, vI, x2, x3, x4, vF, x6, x7, .int .i64 (-1), .bool false] ∧ RowN w H n 35 (madeCells #[.int .i64 0, .bool false] (n * 2)) vI ∧ RowN w H n 4 (madeCells #[.bool false] (n * 1)) vF
theorem r7_16 : R7 n H vR 16 v w ↔ R7b n H vR v w := by unfold R7; rw [if_neg (by omega), if_neg (by omega), if_neg (by omega), if_neg (by omega), if_pos (.inl rfl)]; rfl
theorem r7_17 : R7 n H vR 17 v w ↔ R7b n H vR v w := by unfold R7; rw [if_neg (by omega), if_neg (by omega), if_neg (by omega), if_neg (by omega), if_pos (.inr rfl)]; rfl
end
def dst7 (j : Nat) : Nat := if j = 17 then 2 else j + 6
structure J7 (n : Nat) (vR : Value) (w0 : World) (listed : Array Bool) (a : Act) (w : World) : Prop where
  ls : listed.size = 18
  ts : a.tmps.size = 23
  ds : a.defers = []
  s0 : a.tmps.getD 0 undef = vR
  s1 : a.tmps.getD 1 undef = undef
  s3 : a.tmps.getD 3 undef = .int .i64 n
  bel : Below w0.heap.size w0 w
  done : ∀ j, j < 18 → listed.getD j true = true → R7 n w0.heap.size vR j (a.tmps.getD (dst7 j) undef) w
theorem RowN.below {w w' : World} {H n : Nat} {e : TypeId} {cs : Array Value} {v : Value} (h : RowN w H n e cs v) (hb : Below w.heap.size w w') : RowN w' H n e cs v := by
  obtain ⟨g, h1, h2, h3⟩ := h
  exact ⟨g, h1, h2.below hb h2.lt, h3⟩
theorem R7.below {n H : Nat} {vR v : Value} {j : Nat} {w w' : World} (h : R7 n H vR j v w) (hb : Below w.heap.size w w') : R7 n H vR j v w' := by
  unfold R7 at *
  split
  · rename_i h0; rw [if_pos h0] at h; exact h
  · rename_i h0; rw [if_neg h0] at h
    split
    · rename_i h1; rw [if_pos h1] at h; exact h.below hb
    · rename_i h1; rw [if_neg h1] at h
      split
      · rename_i h2; rw [if_pos h2] at h; exact h.below hb
      · rename_i h2; rw [if_neg h2] at h
        split
        · rename_i h3; rw [if_pos h3] at h
          obtain ⟨vI, vF, x2, x3, x4, x6, x7, a1, a2, a3⟩ := h
          exact ⟨vI, vF, x2, x3, x4, x6, x7, a1, a2.below hb, a3.below hb⟩
        · rename_i h3; rw [if_neg h3] at h
          split
          · rename_i h4; rw [if_pos h4] at h
            obtain ⟨rp, vI, vF, x2, x3, x4, x6, x7, a1, a0, a4, a2, a3⟩ := h
            exact ⟨rp, vI, vF, x2, x3, x4, x6, x7, a1, a0, a4.below hb a4.lt, a2.below hb, a3.below hb⟩
          · rename_i h4; rw [if_neg h4] at h; exact h
theorem gd {listed : Array Bool} {j : Nat} (h : listed.getD j false = true) : listed.getD j true = true := by
  rw [Array.getD_eq_getD_getElem?] at h ⊢
  cases hj : listed[j]? with
  | none => rw [hj] at h; cases h
  | some b => rw [hj] at h; exact h
theorem arr23 {tm : Array Value} (h : tm.size = 23) : tm = #[tm.getD 0 undef, tm.getD 1 undef, tm.getD 2 undef, tm.getD 3 undef, tm.getD 4 undef, tm.getD 5 undef, tm.getD 6 undef, tm.getD 7 undef, tm.getD 8 undef, tm.getD 9 undef, tm.getD 10 undef, tm.getD 11 undef, tm.getD 12 undef, tm.getD 13 undef, tm.getD 14 undef, tm.getD 15 undef, tm.getD 16 undef, tm.getD 17 undef, tm.getD 18 undef, tm.getD 19 undef, tm.getD 20 undef, tm.getD 21 undef, tm.getD 22 undef] := by
  apply Array.ext
  · rw [h]; rfl
  · intro i h1 h2
    have hw : i = 0 ∨ i = 1 ∨ i = 2 ∨ i = 3 ∨ i = 4 ∨ i = 5 ∨ i = 6 ∨ i = 7 ∨ i = 8 ∨ i = 9 ∨ i = 10 ∨ i = 11 ∨ i = 12 ∨ i = 13 ∨ i = 14 ∨ i = 15 ∨ i = 16 ∨ i = 17 ∨ i = 18 ∨ i = 19 ∨ i = 20 ∨ i = 21 ∨ i = 22 := by omega
    rcases hw with rfl | rfl | rfl | rfl | rfl | rfl | rfl | rfl | rfl | rfl | rfl | rfl | rfl | rfl | rfl | rfl | rfl | rfl | rfl | rfl | rfl | rfl | rfl <;> simp [h]
theorem getD_put {tmps : Array Value} {d : Nat} {v : Value} (hd : d < tmps.size) (j : Nat) : (tmps.setIfInBounds d v).getD j undef = if d = j then v else tmps.getD j undef := by
  rw [Array.getD_eq_getD_getElem?, Array.getD_eq_getD_getElem?, Array.getElem?_setIfInBounds]
  by_cases h : d = j
  · rw [if_pos h, if_pos h, if_pos hd]; rfl
  · rw [if_neg h, if_neg h]
theorem J7.step {n : Nat} {vR : Value} {w0 w w' : World} {listed : Array Bool} {a : Act} {i : Nat} {v : Value} (h : J7 n vR w0 listed a w) (hi : i < 18) (hb : Below w.heap.size w w') (hv : R7 n w0.heap.size vR i v w') :
    J7 n vR w0 (listed.setIfInBounds i true) (a.put (some (dst7 i)) v) w' := by
  have hd : dst7 i < a.tmps.size := by rw [h.ts]; unfold dst7; split <;> omega
  have hg : ∀ j, (a.put (some (dst7 i)) v).tmps.getD j undef = if dst7 i = j then v else a.tmps.getD j undef := fun j => getD_put hd j
  have hdi : ∀ j, j < 18 → dst7 i = dst7 j → i = j := fun j hj e => by
    unfold dst7 at e
    split at e <;> split at e <;> omega
  refine ⟨by rw [Array.size_setIfInBounds]; exact h.ls, by show (a.tmps.setIfInBounds _ _).size = 23; rw [Array.size_setIfInBounds]; exact h.ts, h.ds, ?_, ?_, ?_, h.bel.trans (hb.mono h.bel.size), fun j hj hl => ?_⟩
  · rw [hg, if_neg (by unfold dst7; split <;> omega)]; exact h.s0
  · rw [hg, if_neg (by unfold dst7; split <;> omega)]; exact h.s1
  · rw [hg, if_neg (by unfold dst7; split <;> omega)]; exact h.s3
  · rw [hg]
    by_cases hij : i = j
    · subst hij; rw [if_pos rfl]; exact hv
    · rw [if_neg (fun e => hij (hdi j hj e))]
      refine (h.done j hj ?_).below hb
      rw [Array.getD_eq_getD_getElem?, Array.getElem?_setIfInBounds, if_neg hij, ← Array.getD_eq_getD_getElem?] at hl
      exact hl

set_option maxHeartbeats 4000000 in
set_option maxRecDepth 100000 in
theorem new7_walk (A : Option Addr) (c : Nat) (l : List Ru) (w : World) (hn : l.length ≤ 1048576) :
    Calls Tryd.prog 19 #[.slice A l.length c] w fun e w' => R7 l.length w.heap.size (.slice A l.length c) 17 (match e with | .returned v => v | _ => undef) w' ∧ (∃ v, e = .returned v) ∧ Below w.heap.size w w' := by
  go_enter Tryd.func19, Tryd.ntmps19
  go_upto_region 2 with fail
  go_cut [2] (fun s2 wc => R7 l.length w.heap.size (.slice A l.length c) 17 s2 wc ∧ Below w.heap.size w wc)
  case first =>
    refine wp_region_any (by kernel_rfl) ?_
    refine any_J (J7 l.length (.slice A l.length c) w) ?_ ?_ _ _ _ _ ?_ ?_
    · intro listed a wr hJ i hi
      obtain ⟨hu, o, ho, hdep⟩ := mem_ready.1 hi
      have hi18 : i < 18 := (Array.getElem?_eq_some_iff.1 ho).1
      have s0 := hJ.s0
      have s3 := hJ.s3
      have hw : i = 0 ∨ i = 1 ∨ i = 2 ∨ i = 3 ∨ i = 4 ∨ i = 5 ∨ i = 6 ∨ i = 7 ∨ i = 8 ∨ i = 9 ∨ i = 10 ∨ i = 11 ∨ i = 12 ∨ i = 13 ∨ i = 14 ∨ i = 15 ∨ i = 16 ∨ i = 17 := by omega
      rcases hw with rfl | rfl | rfl | rfl | rfl | rfl | rfl | rfl | rfl | rfl | rfl | rfl | rfl | rfl | rfl | rfl | rfl | rfl
      · have ho2 : some _ = some o := ho
        injection ho2 with ho2
        subst ho2
        clear hdep
        refine wpOp_step rfl (fun K' hK => ?_)
        rw [if_pos (by rfl)]
        go_simp
        exact hK _ _ (hJ.step (i := 0) (by omega) (Below.refl _ _) (by simp [R7]))
      · have ho2 : some _ = some o := ho
        injection ho2 with ho2
        subst ho2
        clear hdep
        refine wpOp_step rfl (fun K' hK => ?_)
        rw [if_pos (by rfl)]
        go_simp
        exact hK _ _ (hJ.step (i := 1) (by omega) (Below.refl _ _) (by simp [R7]))
      · have ho2 : some _ = some o := ho
        injection ho2 with ho2
        subst ho2
        have d1 := hJ.done 1 (by omega) (gd (hdep ⟨1, .data⟩ (by simp) rfl))
        simp [R7, dst7] at d1
        have hmk := make_any (z := .agg #[.int .i64 0, .bool false]) Tryd.underlying78 infoO l.length hn (by omega) wr
        clear hdep
        refine wpOp_step rfl (fun K' hK => ?_)
        rw [if_pos (by rfl)]
        go_simp
        exact hK _ _ (hJ.step (i := 2) (by omega) ((Below.refl _ _).alloc (Nat.le_refl _) _) (by first | exact r7_2.2 ⟨_, rfl, Blk.new _ _ _, hJ.bel.size⟩ | (refine r7_10.2 ⟨_, rfl, ?_, hJ.bel.size⟩; rw [Nat.mul_one]; exact Blk.new _ _ _)))
      · have ho2 : some _ = some o := ho
        injection ho2 with ho2
        subst ho2
        clear hdep
        refine wpOp_step rfl (fun K' hK => ?_)
        rw [if_pos (by rfl)]
        go_simp
        exact hK _ _ (hJ.step (i := 3) (by omega) (Below.refl _ _) (by simp [R7]))
      · have ho2 : some _ = some o := ho
        injection ho2 with ho2
        subst ho2
        have d1 := hJ.done 3 (by omega) (gd (hdep ⟨3, .data⟩ (by simp) rfl))
        simp [R7, dst7] at d1
        have hmk := make_any (z := .bool false) Tryd.underlying37 infoBool7 l.length hn (by omega) wr
        clear hdep
        refine wpOp_step rfl (fun K' hK => ?_)
        rw [if_pos (by rfl)]
        go_simp
        exact hK _ _ (hJ.step (i := 4) (by omega) ((Below.refl _ _).alloc (Nat.le_refl _) _) (by simp [R7]))
      · have ho2 : some _ = some o := ho
        injection ho2 with ho2
        subst ho2
        clear hdep
        refine wpOp_step rfl (fun K' hK => ?_)
        rw [if_pos (by rfl)]
        go_simp
        exact hK _ _ (hJ.step (i := 5) (by omega) (Below.refl _ _) (by simp [R7]))
      · have ho2 : some _ = some o := ho
        injection ho2 with ho2
        subst ho2
        have d1 := hJ.done 5 (by omega) (gd (hdep ⟨5, .data⟩ (by simp) rfl))
        simp [R7, dst7] at d1
        have hmk := make_any (z := .slice none 0 0) Tryd.underlying79 infoIntS l.length hn (by omega) wr
        clear hdep
        refine wpOp_step rfl (fun K' hK => ?_)
        rw [if_pos (by rfl)]
        go_simp
        exact hK _ _ (hJ.step (i := 6) (by omega) ((Below.refl _ _).alloc (Nat.le_refl _) _) (by simp [R7]))
      · have ho2 : some _ = some o := ho
        injection ho2 with ho2
        subst ho2
        clear hdep
        refine wpOp_step rfl (fun K' hK => ?_)
        rw [if_pos (by rfl)]
        go_simp
        exact hK _ _ (hJ.step (i := 7) (by omega) (Below.refl _ _) (by simp [R7]))
      · have ho2 : some _ = some o := ho
        injection ho2 with ho2
        subst ho2
        have d1 := hJ.done 7 (by omega) (gd (hdep ⟨7, .data⟩ (by simp) rfl))
        simp [R7, dst7] at d1
        have hmk := make_any (z := .slice none 0 0) Tryd.underlying80 infoOS l.length hn (by omega) wr
        clear hdep
        refine wpOp_step rfl (fun K' hK => ?_)
        rw [if_pos (by rfl)]
        go_simp
        exact hK _ _ (hJ.step (i := 8) (by omega) ((Below.refl _ _).alloc (Nat.le_refl _) _) (by simp [R7]))
      · have ho2 : some _ = some o := ho
        injection ho2 with ho2
        subst ho2
        clear hdep
        refine wpOp_step rfl (fun K' hK => ?_)
        rw [if_pos (by rfl)]
        go_simp
        exact hK _ _ (hJ.step (i := 9) (by omega) (Below.refl _ _) (by simp [R7]))
      · have ho2 : some _ = some o := ho
        injection ho2 with ho2
        subst ho2
        have d1 := hJ.done 9 (by omega) (gd (hdep ⟨9, .data⟩ (by simp) rfl))
        simp [R7, dst7] at d1
        have hmk := make_any (z := .bool false) Tryd.underlying37 infoBool7 l.length hn (by omega) wr
        clear hdep
        refine wpOp_step rfl (fun K' hK => ?_)
        rw [if_pos (by rfl)]
        go_simp
        exact hK _ _ (hJ.step (i := 10) (by omega) ((Below.refl _ _).alloc (Nat.le_refl _) _) (by first | exact r7_2.2 ⟨_, rfl, Blk.new _ _ _, hJ.bel.size⟩ | (refine r7_10.2 ⟨_, rfl, ?_, hJ.bel.size⟩; rw [Nat.mul_one]; exact Blk.new _ _ _)))
      · have ho2 : some _ = some o := ho
        injection ho2 with ho2
        subst ho2
        clear hdep
        refine wpOp_step rfl (fun K' hK => ?_)
        rw [if_pos (by rfl)]
        go_simp
        exact hK _ _ (hJ.step (i := 11) (by omega) (Below.refl _ _) (by simp [R7]))
      · have ho2 : some _ = some o := ho
        injection ho2 with ho2
        subst ho2
        have d1 := hJ.done 11 (by omega) (gd (hdep ⟨11, .data⟩ (by simp) rfl))
        simp [R7, dst7] at d1
        have hmk := make_any (z := .bool false) Tryd.underlying37 infoBool7 l.length hn (by omega) wr
        clear hdep
        refine wpOp_step rfl (fun K' hK => ?_)
        rw [if_pos (by rfl)]
        go_simp
        exact hK _ _ (hJ.step (i := 12) (by omega) ((Below.refl _ _).alloc (Nat.le_refl _) _) (by simp [R7]))
      · have ho2 : some _ = some o := ho
        injection ho2 with ho2
        subst ho2
        clear hdep
        refine wpOp_step rfl (fun K' hK => ?_)
        rw [if_pos (by rfl)]
        go_simp
        exact hK _ _ (hJ.step (i := 13) (by omega) (Below.refl _ _) (by simp [R7]))
      · have ho2 : some _ = some o := ho
        injection ho2 with ho2
        subst ho2
        have d1 := hJ.done 13 (by omega) (gd (hdep ⟨13, .data⟩ (by simp) rfl))
        simp [R7, dst7] at d1
        have hmk := make_any (z := .int .i64 0) Tryd.underlying23 infoIntQ7 l.length hn (by omega) wr
        clear hdep
        refine wpOp_step rfl (fun K' hK => ?_)
        rw [if_pos (by rfl)]
        go_simp
        exact hK _ _ (hJ.step (i := 14) (by omega) ((Below.refl _ _).alloc (Nat.le_refl _) _) (by simp [R7]))
      · have ho2 : some _ = some o := ho
        injection ho2 with ho2
        subst ho2
        have d0 := hJ.done 0 (by omega) (gd (hdep ⟨0, .data⟩ (by simp) rfl))
        have d2 := hJ.done 2 (by omega) (gd (hdep ⟨2, .data⟩ (by simp) rfl))
        have d4 := hJ.done 4 (by omega) (gd (hdep ⟨4, .data⟩ (by simp) rfl))
        have d6 := hJ.done 6 (by omega) (gd (hdep ⟨6, .data⟩ (by simp) rfl))
        have d8 := hJ.done 8 (by omega) (gd (hdep ⟨8, .data⟩ (by simp) rfl))
        have d10 := hJ.done 10 (by omega) (gd (hdep ⟨10, .data⟩ (by simp) rfl))
        have d12 := hJ.done 12 (by omega) (gd (hdep ⟨12, .data⟩ (by simp) rfl))
        have d14 := hJ.done 14 (by omega) (gd (hdep ⟨14, .data⟩ (by simp) rfl))
        replace d2 := r7_2.1 d2
        replace d10 := r7_10.1 d10
        simp [R7, dst7] at d0 d4 d6 d8 d12 d14
        obtain ⟨g2, e2, b2, l2⟩ := d2
        obtain ⟨g10, e10, b10, l10⟩ := d10
        simp [dst7] at e2 e10
        obtain ⟨g4, e4⟩ := d4
        obtain ⟨g6, e6⟩ := d6
        obtain ⟨g8, e8⟩ := d8
        obtain ⟨g12, e12⟩ := d12
        obtain ⟨g14, e14⟩ := d14
        clear hdep
        refine wpOp_step rfl (fun K' hK => ?_)
        rw [if_pos (by rfl)]
        go_simp
        exact hK _ _ (hJ.step (i := 15) (by omega) (Below.refl _ _) (r7_15.2 ⟨_, _, _, _, _, _, _, rfl, ⟨g2, rfl, b2, l2⟩, ⟨g10, rfl, b10, l10⟩⟩))
      · have ho2 : some _ = some o := ho
        injection ho2 with ho2
        subst ho2
        obtain ⟨vI, vF, x2, x3, x4, x6, x7, e15, b2, b10⟩ := r7_15.1 (hJ.done 15 (by omega) (gd (hdep ⟨15, .data⟩ (by simp) rfl)))
        simp [dst7] at e15
        clear hdep
        refine wpOp_step rfl (fun K' hK => ?_)
        rw [if_pos (by rfl)]
        go_simp
        have hb : Below wr.heap.size wr (wr.alloc (.cells #[.slice A l.length c, vI, x2, x3, x4, vF, x6, x7, .int .i64 (-1), .bool false] 82)) := (Below.refl _ _).alloc (Nat.le_refl _) _
        exact hK _ _ (hJ.step (i := 16) (by omega) hb (r7_16.2 ⟨_, vI, vF, x2, x3, x4, x6, x7, rfl, hJ.bel.size, Blk.new _ _ _, b2.below hb, b10.below hb⟩))
      · have ho2 : some _ = some o := ho
        injection ho2 with ho2
        subst ho2
        have d16 := r7_16.1 (hJ.done 16 (by omega) (gd (hdep ⟨16, .data⟩ (by simp) rfl)))
        have hd := d16
        obtain ⟨rp, vI, vF, x2, x3, x4, x6, x7, e16, _⟩ := hd
        have e16' := e16
        simp [dst7] at e16
        clear hdep
        refine wpOp_step rfl (fun K' hK => ?_)
        rw [if_pos (by rfl)]
        go_simp
        exact hK _ _ (hJ.step (i := 17) (by omega) (Below.refl _ _) (r7_17.2 (by rw [e16'] at d16; exact d16)))
    · intro listed a wr hJ hr
      have hall := all_listed (by kernel_rfl) hr hJ.ls
      have h17 := hJ.done 17 (by omega) (gd (hall 17 (by decide)))
      have b17 := hJ.bel
      obtain ⟨tm, ds⟩ := a
      have e := arr23 hJ.ts
      have h0 := hJ.s0
      have h1 := hJ.s1
      have h3 := hJ.s3
      have hd := hJ.ds
      simp only [dst7, if_true] at e h0 h1 h3 hd h17
      clear hJ hall hr
      rw [e, h0, h1, h3, hd]
      generalize tm.getD 2 undef = v2 at h17 ⊢
      clear e h0 h1 h3 hd
      generalize tm.getD 4 undef = y4
      generalize tm.getD 5 undef = y5
      generalize tm.getD 6 undef = y6
      generalize tm.getD 7 undef = y7
      generalize tm.getD 8 undef = y8
      generalize tm.getD 9 undef = y9
      generalize tm.getD 10 undef = y10
      generalize tm.getD 11 undef = y11
      generalize tm.getD 12 undef = y12
      generalize tm.getD 13 undef = y13
      generalize tm.getD 14 undef = y14
      generalize tm.getD 15 undef = y15
      generalize tm.getD 16 undef = y16
      generalize tm.getD 17 undef = y17
      generalize tm.getD 18 undef = y18
      generalize tm.getD 19 undef = y19
      generalize tm.getD 20 undef = y20
      generalize tm.getD 21 undef = y21
      generalize tm.getD 22 undef = y22
      clear tm
      go_wp2_with fail
      go_meet
      exact ⟨h17, b17⟩
    · exact ⟨by simp, rfl, rfl, rfl, rfl, rfl, (Below.refl _ _).drew, fun j hj h => by
        rw [Array.getD_eq_getD_getElem?, Array.getElem?_replicate] at h
        simp [hj] at h⟩
    · decide
  case rest =>
    obtain ⟨h17, hb⟩ := hcut
    go_wp2_with fail
    go_ret
    exact ⟨h17, ⟨_, rfl⟩, hb⟩
end Go.Proofs.YtnadldoebfmgmaaDoor.q
