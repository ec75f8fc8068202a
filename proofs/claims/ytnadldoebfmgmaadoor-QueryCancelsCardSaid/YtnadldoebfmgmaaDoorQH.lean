/-
  SHEETS in memory: the predicate, and what a store does to it.
-/
import Derived.Test.YtnadldoebfmgmaaDoorQF
import Derived.Test.YtnadldoebfmgmaaDoorBase
namespace Go.Proofs.YtnadldoebfmgmaaDoor.q
open Go.RowKit

def celCells (c : Cel) (vd vl : Value) : Array Value := #[.int .i64 c.op, .int .i64 c.a, .int .i64 c.b, .int .i64 c.c, .bool c.ran, .int .i64 c.n, .int .i64 c.e, vd, .int .i64 c.since, .bool c.busy, .int .u32 (if c.once then 1 else 0), .int .i32 0, .int .u32 0, vl]
def depCells (l : List Dep) : List Value := l.flatMap fun d => [.int .i64 (d.c : Int), .int .i64 d.n, .int .i64 d.e]
def intsV (l : List Int) : List Value := l.map fun n => .int .i64 n
theorem cellsCell : Tryd.prog.cellsOf 76 = 14 := by kernel_rfl
theorem cellsSheet : Tryd.prog.cellsOf 62 = 6 := by kernel_rfl
theorem depCells_len (l : List Dep) : (depCells l).length = l.length * 3 := by
  induction l with
  | nil => rfl
  | cons a l ih => simp only [depCells, List.flatMap_cons, List.length_append, List.length_cons] at *; rw [ih]; simp; omega
theorem depCells_get (l : List Dep) (k j : Nat) (hj : j < 3) (hk : k < l.length) : (depCells l)[k * 3 + j]? = ([.int .i64 (l[k].c : Int), .int .i64 l[k].n, .int .i64 l[k].e] : List Value)[j]? := by
  induction l generalizing k with
  | nil => simp at hk
  | cons a l ih =>
    cases k with
    | zero => simp only [depCells, List.flatMap_cons]; rw [List.getElem?_append_left (by simp; omega)]; simp
    | succ k =>
      simp only [depCells, List.flatMap_cons]
      rw [List.getElem?_append_right (by simp; omega)]
      have e : (k + 1) * 3 + j - ([.int .i64 (a.c : Int), .int .i64 a.n, .int .i64 a.e] : List Value).length = k * 3 + j := by simp; omega
      rw [e]
      have := ih k (by simpa using hk)
      simpa [depCells] using this

/-- a cell of a sheet, in block p; its rows keep clear of the blocks N -/
structure CelV (N : Nat → Prop) (w : World) (base p : Nat) (c : Cel) (vd vl : Value) : Prop where
  blk : Blk w p 76 (celCells c vd vl)
  deps : w.ownsRow base 115 3 vd c.deps.length (depCells c.deps)
  l1 : c.once = true → w.ownsRow base 3 1 vl c.looks.length (intsV c.looks)
  l0 : c.once = false → vl = .slice none 0 0
  base_ : base ≤ p
  np : ¬ N p
  nd : ∀ k, vd.ownBlock = some k → ¬ N k
  nl : ∀ k, vl.ownBlock = some k → ¬ N k
def CelAt (N : Nat → Prop) (w : World) (base p : Nat) (c : Cel) : Prop := ∃ vd vl, CelV N w base p c vd vl

/-- a sheet, in block sp; its cells in the blocks ps -/
structure ShAt (N : Nat → Prop) (w : World) (base sp : Nat) (lk : Int) (ps : List Nat) (vc : Value) (rb rc : Nat) (s : Sh) : Prop where
  sheet : Blk w sp 62 #[.int .i32 lk, .int .u32 0, vc, .slice (some ⟨rb, 0, none⟩) ps.length rc, .int .i64 s.sets, .int .i64 s.most]
  cells : w.ownsRow base 77 1 vc ps.length (ps.map fun p => Value.pointer (some ⟨p, 0, none⟩))
  runs : w.ownsRow base 95 1 (.slice (some ⟨rb, 0, none⟩) ps.length rc) ps.length (s.cs.map fun c => Value.int .i64 c.runs)
  each : ∀ i (h : i < ps.length), CelAt N w base ps[i] (s.at i)
  nod : ps.Nodup
  len : ps.length = s.cs.length
  base_ : base ≤ sp
  nsp : ¬ N sp
  nc : ∀ k, vc.ownBlock = some k → ¬ N k
  nr : ¬ N rb

/-- the blocks N are as they were -/
def KeepN (N : Nat → Prop) (w w' : World) : Prop := ∀ k, N k → w'.heap[k]? = w.heap[k]?
section
variable {N N' : Nat → Prop} {w w' w1 w2 : World} {base sp rb rc p : Nat} {lk : Int} {ps : List Nat} {vc vd vl : Value} {s : Sh} {c : Cel}
theorem KeepN.refl (N : Nat → Prop) (w : World) : KeepN N w w := fun _ _ => rfl
theorem KeepN.trans (h : KeepN N w w1) (h' : KeepN N w1 w2) : KeepN N w w2 := fun k hk => (h' k hk).trans (h k hk)
theorem KeepN.below (h : ∀ k, N k → k < w.heap.size) (hb : Below w.heap.size w w1) : KeepN N w w1 := fun k hk => hb.block k (h k hk)
theorem KeepN.setCell {p : Addr} (h : ¬ N p.block) (u : Value) : KeepN N w (w.setCell p u) := fun k hk => Below.heap_setCell w p u k (fun e => h (e ▸ hk))
theorem KeepN.mono (h : KeepN N w w1) (hs : ∀ k, N' k → N k) : KeepN N' w w1 := fun k hk => h k (hs k hk)

/-- blocks that are not of N stand -/
theorem CelV.other (h : CelV N w base p c vd vl) (hk : ∀ k, k < w.heap.size → ¬ N k → w'.heap[k]? = w.heap[k]?) (hN : ∀ k, N' k → N k ∨ w.heap.size ≤ k) : CelV N' w' base p c vd vl where
  blk := (hk _ h.blk.lt h.np).trans h.blk
  deps := own_of_block h.deps fun k hk' => hk k (h.deps.lt k hk').2 (h.nd k hk')
  l1 e := own_of_block (h.l1 e) fun k hk' => hk k ((h.l1 e).lt k hk').2 (h.nl k hk')
  l0 := h.l0
  base_ := h.base_
  np hn := by rcases hN _ hn with h1 | h1; exact h.np h1; have := h.blk.lt; omega
  nd k hk' hn := by rcases hN _ hn with h1 | h1; exact h.nd k hk' h1; have := (h.deps.lt k hk').2; omega
  nl k hk' hn := by
    rcases hN _ hn with h1 | h1
    · exact h.nl k hk' h1
    · cases e : c.once with
      | true => have := ((h.l1 e).lt k hk').2; omega
      | false => rw [h.l0 e] at hk'; simp [Value.ownBlock] at hk'
theorem ShAt.other (h : ShAt N w base sp lk ps vc rb rc s) (hk : ∀ k, k < w.heap.size → ¬ N k → w'.heap[k]? = w.heap[k]?) (hN : ∀ k, N' k → N k ∨ w.heap.size ≤ k) : ShAt N' w' base sp lk ps vc rb rc s where
  sheet := (hk _ h.sheet.lt h.nsp).trans h.sheet
  cells := own_of_block h.cells fun k hk' => hk k (h.cells.lt k hk').2 (h.nc k hk')
  runs := own_of_block h.runs fun k hk' => by
    simp only [Value.ownBlock, Option.some.injEq] at hk'
    subst hk'
    exact hk _ (h.runs.lt _ rfl).2 h.nr
  each i hi := by
    obtain ⟨vd, vl, hv⟩ := h.each i hi
    exact ⟨vd, vl, hv.other hk hN⟩
  nod := h.nod
  len := h.len
  base_ := h.base_
  nsp hn := by rcases hN _ hn with h1 | h1; exact h.nsp h1; have := h.sheet.lt; omega
  nc k hk' hn := by rcases hN _ hn with h1 | h1; exact h.nc k hk' h1; have := (h.cells.lt k hk').2; omega
  nr hn := by rcases hN _ hn with h1 | h1; exact h.nr h1; have := (h.runs.lt rb rfl).2; omega
theorem ShAt.below (h : ShAt N w base sp lk ps vc rb rc s) (hb : Below w.heap.size w w') : ShAt N w' base sp lk ps vc rb rc s := h.other (fun k hk _ => hb.block k hk) fun _ => .inl
theorem ShAt.drew (h : ShAt N w base sp lk ps vc rb rc s) : ShAt N w.drew base sp lk ps vc rb rc s := h.other (fun _ _ _ => rfl) fun _ => .inl
theorem ShAt.drewN (h : ShAt N w base sp lk ps vc rb rc s) (n : Nat) : ShAt N (w.drewN n) base sp lk ps vc rb rc s := h.other (fun _ _ _ => rfl) fun _ => .inl

theorem blk_ne {g h : Nat} {t t' : TypeId} {cs cs' : Array Value} (hg : Blk w g t cs) (hh : Blk w h t' cs') (hne : t ≠ t') : g ≠ h := fun e => by
  unfold Blk at hg hh
  rw [e, hh] at hg
  injection hg with hg
  injection hg with _ hg _
  exact hne hg.symm
/-- a cell of the sheet that is not written -/
theorem CelV.store (h : CelV N w base p c vd vl) {a : Addr} {t : TypeId} {cs : Array Value} (ha : Blk w a.block t cs) (h1 : p ≠ a.block) (h2 : t ≠ 115) (h3 : t ≠ 3) (u : Value) : CelV N (w.setCell a u) base p c vd vl where
  blk := h.blk.far h1 u
  deps := own_of_block h.deps fun k hk => Below.heap_setCell _ _ _ _ fun e => own_ne h.deps ha (Ne.symm h2) (by rw [hk, e])
  l1 e := own_of_block (h.l1 e) fun k hk => Below.heap_setCell _ _ _ _ fun e' => own_ne (h.l1 e) ha (Ne.symm h3) (by rw [hk, e'])
  l0 := h.l0
  base_ := h.base_
  np := h.np
  nd := h.nd
  nl := h.nl
theorem nod_ne {ps : List Nat} (h : ps.Nodup) {i j : Nat} {hi : i < ps.length} {hj : j < ps.length} (hne : i ≠ j) : ps[i] ≠ ps[j] := by
  have hp := List.pairwise_iff_getElem.1 h
  rcases Nat.lt_or_gt_of_ne hne with h1 | h1
  · exact hp i j hi hj h1
  · exact (hp j i hj hi h1).symm
/-- a store into a cell of the sheet, its rows unturned -/
theorem ShAt.set (h : ShAt N w base sp lk ps vc rb rc s) {k : Nat} (hk : k < ps.length) {f : Cel → Cel} {j : Nat} {u : Value} (he : ∀ vd vl, (celCells (s.at k) vd vl).setIfInBounds j u = celCells (f (s.at k)) vd vl)
    (hd : (f (s.at k)).deps = (s.at k).deps) (ho : (f (s.at k)).once = (s.at k).once) (hl : (f (s.at k)).looks = (s.at k).looks) (hr : (f (s.at k)).runs = (s.at k).runs) :
    ShAt N (w.setCell ⟨ps[k], j, none⟩ u) base sp lk ps vc rb rc (s.upd k f) := by
  obtain ⟨vd, vl, hv⟩ := h.each k hk
  have hk' : k < s.cs.length := by rw [← h.len]; exact hk
  refine ⟨h.sheet.far (blk_ne h.sheet hv.blk (by decide)) u, own_of_block h.cells fun b hb => Below.heap_setCell _ _ _ _ fun e => own_ne h.cells hv.blk (by decide) (by rw [hb, e]), ?_, fun i hi => ?_, h.nod, by rw [upd_len]; exact h.len, h.base_, h.nsp, h.nc, h.nr⟩
  · have e : (s.upd k f).cs.map (fun c => Value.int .i64 c.runs) = s.cs.map fun c => Value.int .i64 c.runs := by
      apply List.ext_getElem?
      intro i
      show ((s.cs.modify k f).map _)[i]? = _
      rw [List.getElem?_map, List.getElem?_map]
      by_cases hki : k = i
      · subst hki
        rw [List.getElem?_modify_eq, List.getElem?_eq_getElem hk']
        have e2 : s.at k = s.cs[k] := by unfold Sh.at; rw [List.getD_eq_getElem?_getD, List.getElem?_eq_getElem hk']; rfl
        rw [e2] at hr
        simp [hr]
      · rw [List.getElem?_modify_ne _ _ hki]
    rw [e]
    exact own_of_block h.runs fun b hb => Below.heap_setCell _ _ _ _ fun e => own_ne h.runs hv.blk (by decide) (by rw [hb, e])
  · by_cases hki : k = i
    · subst hki
      rw [upd_at_same hk']
      have hb := hv.blk.set_ j u
      rw [he] at hb
      refine ⟨vd, vl, hb, ?_, fun e => ?_, fun e => hv.l0 (by rw [← ho]; exact e), hv.base_, hv.np, hv.nd, hv.nl⟩
      · rw [hd]
        exact own_of_block hv.deps fun b hb => Below.heap_setCell _ _ _ _ fun e => own_ne hv.deps hv.blk (by decide) (by rw [hb, e])
      · rw [hl]
        have hl1 := hv.l1 (by rw [← ho]; exact e)
        exact own_of_block hl1 fun b hb => Below.heap_setCell _ _ _ _ fun e' => own_ne hl1 hv.blk (by decide) (by rw [hb, e'])
    · rw [upd_at_ne hki]
      obtain ⟨vd', vl', hv'⟩ := h.each i hi
      refine ⟨vd', vl', hv'.store (a := ⟨ps[k], j, none⟩) hv.blk (fun e => ?_) (by decide) (by decide) u⟩
      exact nod_ne h.nod (Ne.symm hki) e
/-- a store into the sheet's own block -/
theorem ShAt.setSheet (h : ShAt N w base sp lk ps vc rb rc s) {j : Nat} {u : Value} {lk' sets' most' : Int}
    (he : (#[.int .i32 lk, .int .u32 0, vc, .slice (some ⟨rb, 0, none⟩) ps.length rc, .int .i64 s.sets, .int .i64 s.most] : Array Value).setIfInBounds j u = #[.int .i32 lk', .int .u32 0, vc, .slice (some ⟨rb, 0, none⟩) ps.length rc, .int .i64 sets', .int .i64 most']) :
    ShAt N (w.setCell ⟨sp, j, none⟩ u) base sp lk' ps vc rb rc { s with sets := sets', most := most' } := by
  have hb := h.sheet.set_ j u
  rw [he] at hb
  refine ⟨hb, own_of_block h.cells fun b hb => Below.heap_setCell _ _ _ _ fun e => own_ne h.cells h.sheet (by decide) (by rw [hb, e]), own_of_block h.runs fun b hb => Below.heap_setCell _ _ _ _ fun e => own_ne h.runs h.sheet (by decide) (by rw [hb, e]), fun i hi => ?_, h.nod, h.len, h.base_, h.nsp, h.nc, h.nr⟩
  obtain ⟨vd, vl, hv⟩ := h.each i hi
  exact ⟨vd, vl, hv.store (a := ⟨sp, j, none⟩) h.sheet (blk_ne hv.blk h.sheet (by decide)) (by decide) (by decide) u⟩
end
end Go.Proofs.YtnadldoebfmgmaaDoor.q
