/-
  sync.Once over the cells that a rule looks at: (*sync.Once).Do, its slow road, the closure.
-/
import Derived.Test.YtnadldoebfmgmaaDoorQL
namespace Go.Proofs.YtnadldoebfmgmaaDoor.q
open Go.RowKit

def celArr (c : Cel) (vd vl : Value) (d m : Int) : Array Value := #[.int .i64 c.op, .int .i64 c.a, .int .i64 c.b, .int .i64 c.c, .bool c.ran, .int .i64 c.n, .int .i64 c.e, vd, .int .i64 c.since, .bool c.busy, .int .u32 d, .int .i32 m, .int .u32 0, vl]
theorem celCells_arr (c : Cel) (vd vl : Value) : celCells c vd vl = celArr c vd vl (if c.once then 1 else 0) 0 := rfl
/-- but for block p all old blocks are as they were -/
def Oth1 (p : Nat) (w w' : World) : Prop := ∀ b, b < w.heap.size → b ≠ p → w'.heap[b]? = w.heap[b]?
theorem Oth1.trans {p : Nat} {w w1 w2 : World} (h : Oth1 p w w1) (h' : Oth1 p w1 w2) (hs : w.heap.size ≤ w1.heap.size) : Oth1 p w w2 := fun b hb hn => (h' b (by omega) hn).trans (h b hb hn)
theorem Oth1.set {p : Nat} (w : World) (j : Nat) (u : Value) : Oth1 p w (w.setCell ⟨p, j, none⟩ u) := fun b _ hn => Below.heap_setCell w ⟨p, j, none⟩ u b hn
theorem Oth1.below {p : Nat} {w w' : World} (h : Below w.heap.size w w') : Oth1 p w w' := fun b hb _ => h.block b hb

section
variable {N : Nat → Prop} {w w' : World} {base sp rb rc : Nat} {lk : Int} {ps : List Nat} {vc : Value} {s : Sh}
/-- a cell of the sheet has turned, and nothing else of it -/
theorem ShAt.turn (h : ShAt N w base sp lk ps vc rb rc s) {k : Nat} (hk : k < ps.length) {f : Cel → Cel} (ho : Oth1 ps[k] w w') (hc : CelAt N w' base ps[k] (f (s.at k))) (hr : (f (s.at k)).runs = (s.at k).runs) :
    ShAt N w' base sp lk ps vc rb rc (s.upd k f) := by
  obtain ⟨vd, vl, hv⟩ := h.each k hk
  have hk' : k < s.cs.length := by rw [← h.len]; exact hk
  refine ⟨(ho _ h.sheet.lt (blk_ne h.sheet hv.blk (by decide))).trans h.sheet, own_of_block h.cells fun b hb => ho b (h.cells.lt b hb).2 fun e => own_ne h.cells hv.blk (by decide) (by rw [hb, e]), ?_, fun i hi => ?_, h.nod, by rw [upd_len]; exact h.len, h.base_, h.nsp, h.nc, h.nr⟩
  · have e : (s.upd k f).cs.map (fun c => Value.int .i64 c.runs) = s.cs.map fun c => Value.int .i64 c.runs := by
      apply List.ext_getElem?
      intro i
      show ((s.cs.modify k f).map _)[i]? = _
      rw [List.getElem?_map, List.getElem?_map]
      by_cases hki : k = i
      · subst hki
        rw [List.getElem?_modify_eq, List.getElem?_eq_getElem hk']
        have e2 : s.at k = s.cs[k] := by unfold Sh.at; rw [List.getD_eq_getElem?_getD, List.getElem?_eq_getElem hk']; rfl
        rw [e2] at hr
        simp [hr]
      · rw [List.getElem?_modify_ne _ _ hki]
    rw [e]
    exact own_of_block h.runs fun b hb => ho b (h.runs.lt b hb).2 fun e => own_ne h.runs hv.blk (by decide) (by rw [hb, e])
  · by_cases hki : k = i
    · subst hki
      rw [upd_at_same hk']
      exact hc
    · rw [upd_at_ne hki]
      obtain ⟨vd', vl', hv'⟩ := h.each i hi
      refine ⟨vd', vl', (ho _ hv'.blk.lt fun e => nod_ne h.nod (Ne.symm hki) e).trans hv'.blk, own_of_block hv'.deps fun b hb => ho b (hv'.deps.lt b hb).2 fun e => own_ne hv'.deps hv.blk (by decide) (by rw [hb, e]),
        fun e1 => own_of_block (hv'.l1 e1) fun b hb => ho b ((hv'.l1 e1).lt b hb).2 fun e => own_ne (hv'.l1 e1) hv.blk (by decide) (by rw [hb, e]), hv'.l0, hv'.base_, hv'.np, hv'.nd, hv'.nl⟩
end

set_option maxHeartbeats 1600000 in
set_option maxRecDepth 100000 in
/-- the closure: c.l = looks(c.rule) -/
theorem set_walk (base p pl : Nat) (c : Cel) (vd vl : Value) (d m : Int) (w : World) (hop : 0 ≤ c.op ∧ c.op ≤ 5) (hp : w.cell? ⟨pl, 0, none⟩ = some (.pointer (some ⟨p, 0, none⟩))) (hne : pl ≠ p) (hB : Blk w p 76 (celArr c vd vl d m)) (hb : base ≤ p) (hz : base ≤ w.heap.size) :
    Calls Tryd.prog 61 #[.pointer (some ⟨pl, 0, none⟩)] w fun e w' => e = .returned (.tuple #[]) ∧
      ∃ v, Blk w' p 76 (celArr c vd v d m) ∧ w'.ownsRow w.heap.size 3 1 v c.looks.length (intsV c.looks) ∧ Oth1 p w w' ∧ Below base w w' := by
  have hBd : Blk w.drew p 76 (celArr c vd vl d m) := hB
  have c0 := hB.cell 0
  have c1 := hB.cell 1
  have c2 := hB.cell 2
  have c3 := hB.cell 3
  have c13 := hB.cell 13
  have f13 := hB.frozen 13
  simp [celArr] at c0 c1 c2 c3 c13
  have hpl := hB.lt
  have hll := World.block_lt_of_cell? w ⟨pl, 0, none⟩ hp
  go_enter Tryd.func61, Tryd.ntmps61
  go_wp2_with fail
  go_region_held3 (fun w' => w'.cell? ⟨pl, 0, none⟩ = some (.pointer (some ⟨p, 0, none⟩)) ∧ w'.cell? ⟨p, 0, none⟩ = some (.int .i64 c.op) ∧ w'.cell? ⟨p, 1, none⟩ = some (.int .i64 c.a) ∧ w'.cell? ⟨p, 2, none⟩ = some (.int .i64 c.b) ∧ w'.cell? ⟨p, 3, none⟩ = some (.int .i64 c.c))
    (first | (go_keep; done) | exact ⟨e4, e0, e1, e2, e3⟩ | exact ⟨(World.cell?_setCell_other _ ⟨p, 13, none⟩ ⟨pl, 0, none⟩ _ (fun e => hne (congrArg Addr.block e).symm)).trans e4, (World.cell?_setCell_other _ ⟨p, 13, none⟩ ⟨p, 0, none⟩ _ (by simp)).trans e0, (World.cell?_setCell_other _ ⟨p, 13, none⟩ ⟨p, 1, none⟩ _ (by simp)).trans e1, (World.cell?_setCell_other _ ⟨p, 13, none⟩ ⟨p, 2, none⟩ _ (by simp)).trans e2, (World.cell?_setCell_other _ ⟨p, 13, none⟩ ⟨p, 3, none⟩ _ (by simp)).trans e3⟩)
    ((go_at_call 26; refine (looks_walk c.op c.a c.b c.c _ hop).mono ?_; rintro e w2 ⟨v, rfl, hown, hb2⟩; obtain ⟨Av, cv, rfl⟩ := own_form hown; have d13 := (hb2.cell (p := ⟨p, 13, none⟩) hpl).trans c13; have g13 := (hb2.frozen (p := ⟨p, 13, none⟩) hpl).trans f13; have e4 := (hb2.cell (p := ⟨pl, 0, none⟩) hll).trans hp; have e0 := (hb2.cell (p := ⟨p, 0, none⟩) hpl).trans c0; have e1 := (hb2.cell (p := ⟨p, 1, none⟩) hpl).trans c1; have e2 := (hb2.cell (p := ⟨p, 2, none⟩) hpl).trans c2; have e3 := (hb2.cell (p := ⟨p, 3, none⟩) hpl).trans c3))
  go_end0
  have hb2' : Below w.heap.size w w2 := (Below.refl _ _).drew.trans hb2
  have hB2 := hB.below hb2' hpl
  refine ⟨rfl, .slice Av (looksL c.op c.a c.b c.c).length cv, ?_, ?_, (Oth1.below hb2').trans (Oth1.set _ _ _) hb2'.size, (hb2'.mono hz).setCell (p := ⟨p, 13, none⟩) hb _⟩
  · exact hB2.set_ 13 _
  · exact own_of_block hown fun b hb' => Below.heap_setCell _ _ _ _ fun e => own_ne hown hB2 (by decide) (by rw [hb', e])
theorem bload (a : Addr) (d : Bool) (w : World) (hc : w.cell? a = some (.int .u32 (if d then 1 else 0))) :
    Calls Tryd.prog 68 #[.pointer (some a)] w fun e w' => e = .returned (.bool d) ∧ w = w' := by
  have hl := run_call_load (P := Tryd.prog) Tryd.func71 (by kernel_rfl) (by kernel_rfl) (by kernel_rfl) .u32 (by kernel_rfl) hc
  cases d with
  | true =>
    go_enter Tryd.func68, Tryd.ntmps68
    go_wp2
    go_ret
    exact ⟨rfl, rfl⟩
  | false =>
    go_enter Tryd.func68, Tryd.ntmps68
    go_wp2
    go_ret
    exact ⟨rfl, rfl⟩

set_option maxHeartbeats 1600000 in
set_option maxRecDepth 100000 in
theorem slow_walk (base p pl : Nat) (c : Cel) (vd vl : Value) (w : World) (hop : 0 ≤ c.op ∧ c.op ≤ 5) (hp : w.cell? ⟨pl, 0, none⟩ = some (.pointer (some ⟨p, 0, none⟩))) (hne : pl ≠ p) (hB : Blk w p 76 (celArr c vd vl 0 0)) (hb : base ≤ p) (hz : base ≤ w.heap.size) :
    Calls Tryd.prog 69 #[.pointer (some ⟨p, 10, none⟩), .func (.func 61) #[] #[.pointer (some ⟨pl, 0, none⟩)]] w fun e w' => e = .returned (.tuple #[]) ∧
      ∃ v, Blk w' p 76 (celArr c vd v 1 0) ∧ w'.ownsRow w.heap.size 3 1 v c.looks.length (intsV c.looks) ∧ Oth1 p w w' ∧ Below base w w' := by
  have c11 := hB.cell 11
  have f11 := hB.frozen 11
  simp [celArr] at c11
  have hB1 : Blk (w.setCell ⟨p, 11, none⟩ (.int .i32 1)) p 76 (celArr c vd vl 0 1) := hB.set_ 11 (.int .i32 1)
  have hp1 : (w.setCell ⟨p, 11, none⟩ (.int .i32 1)).cell? ⟨pl, 0, none⟩ = some (.pointer (some ⟨p, 0, none⟩)) := (World.cell?_setCell_other _ ⟨p, 11, none⟩ ⟨pl, 0, none⟩ _ (fun e => hne (congrArg Addr.block e).symm)).trans hp
  have ho1 : Oth1 p w (w.setCell ⟨p, 11, none⟩ (.int .i32 1)) := Oth1.set w 11 _
  have hb1 : Below base w (w.setCell ⟨p, 11, none⟩ (.int .i32 1)) := (Below.refl _ _).setCell (p := ⟨p, 11, none⟩) hb _
  have hsz : w.heap.size = (w.setCell ⟨p, 11, none⟩ (.int .i32 1)).heap.size := by simp
  go_enter_defers Tryd.func69, Tryd.ntmps69
  go_wp2_with fail
  refine (lock_free ⟨p, 11, none⟩ _ c11 f11).mono ?_
  rintro e w' ⟨rfl, rfl⟩
  clear c11 f11 hp hB
  have Hsz := Lib.hid hsz
  clear hsz
  generalize hw1 : w.setCell ⟨p, 11, none⟩ (.int .i32 1) = w1 at *
  clear hw1
  have c10 := hB1.cell 10
  simp [celArr] at c10
  go_wp2_with fail
  refine (bload ⟨p, 10, none⟩ false _ c10).mono ?_
  rintro e w' ⟨rfl, rfl⟩
  go_wp2_with fail
  refine (set_walk base p pl c vd vl 0 1 w1 hop hp1 hne hB1 hb (by have := hb1.size; omega)).mono ?_
  rintro e w2 ⟨rfl, v, hB2, hown, ho2, hb2⟩
  go_wp2_with fail
  -- the door: two deferred calls
  refine leaves_cons (f := 72) (args := #[.pointer (some ⟨p, 10, none⟩), .bool true]) (by simp) (by simp [go_sem]) ?_
  have d10 := hB2.cell 10
  have g10 := hB2.frozen 10
  simp [celArr] at d10
  refine (store_deferred ⟨p, 10, none⟩ _ .returning _ d10 g10).mono ?_
  rintro e u' w'' ⟨rfl, rfl, rfl⟩
  have hB3 : Blk (w2.drew.setCell ⟨p, 10, none⟩ (.int .u32 1)) p 76 (celArr c vd v 1 1) := hB2.drew.set_ 10 (.int .u32 1)
  have hown3 : (w2.drew.setCell ⟨p, 10, none⟩ (.int .u32 1)).ownsRow w1.heap.size 3 1 v c.looks.length (intsV c.looks) := own_of_block (w := w2.drew) hown.drew fun b hb' => Below.heap_setCell _ _ _ _ fun e => own_ne hown hB2 (by decide) (by rw [hb', e])
  have d11 := hB3.cell 11
  have g11 := hB3.frozen 11
  simp [celArr] at d11
  refine leaves_cons (f := 21) (args := #[.pointer (some ⟨p, 11, none⟩)]) (by simp [settle]) (by simp [go_sem]) ?_
  refine (unlock_deferred ⟨p, 11, none⟩ _ _ d11 g11).mono ?_
  rintro e u' w'' ⟨rfl, rfl, rfl⟩
  have hfin : Blk ((w2.drew.setCell ⟨p, 10, none⟩ (.int .u32 1)).setCell ⟨p, 11, none⟩ (.int .i32 0)) p 76 (celArr c vd v 1 0) := hB3.set_ 11 (.int .i32 0)
  have hown4 : ((w2.drew.setCell ⟨p, 10, none⟩ (.int .u32 1)).setCell ⟨p, 11, none⟩ (.int .i32 0)).ownsRow w1.heap.size 3 1 v c.looks.length (intsV c.looks) := own_of_block hown3 fun b hb' => Below.heap_setCell _ _ _ _ fun e => own_ne hown3 hB3 (by decide) (by rw [hb', e])
  have ho4 : Oth1 p w1 ((w2.drew.setCell ⟨p, 10, none⟩ (.int .u32 1)).setCell ⟨p, 11, none⟩ (.int .i32 0)) := (ho2.trans (w2 := w2.drew) (fun _ _ _ => rfl) hb2.size).trans ((Oth1.set _ _ _).trans (Oth1.set _ _ _) (by simp)) hb2.size
  have hb4 : Below base w1 ((w2.drew.setCell ⟨p, 10, none⟩ (.int .u32 1)).setCell ⟨p, 11, none⟩ (.int .i32 0)) := (hb2.drew.setCell (p := ⟨p, 10, none⟩) hb _).setCell (p := ⟨p, 11, none⟩) hb _
  have hres : ∃ v, Blk ((w2.drew.setCell ⟨p, 10, none⟩ (.int .u32 1)).setCell ⟨p, 11, none⟩ (.int .i32 0)) p 76 (celArr c vd v 1 0) ∧ ((w2.drew.setCell ⟨p, 10, none⟩ (.int .u32 1)).setCell ⟨p, 11, none⟩ (.int .i32 0)).ownsRow w.heap.size 3 1 v c.looks.length (intsV c.looks) ∧
      Oth1 p w ((w2.drew.setCell ⟨p, 10, none⟩ (.int .u32 1)).setCell ⟨p, 11, none⟩ (.int .i32 0)) ∧ Below base w ((w2.drew.setCell ⟨p, 10, none⟩ (.int .u32 1)).setCell ⟨p, 11, none⟩ (.int .i32 0)) :=
    ⟨v, hfin, by rw [Hsz.out]; exact hown4, ho1.trans ho4 (by rw [Hsz.out]; exact Nat.le_refl _), hb1.trans hb4⟩
  exact ⟨_, results_none rfl _ _ _, rfl, hres⟩

set_option maxHeartbeats 1600000 in
set_option maxRecDepth 100000 in
/-- Do, whether the cells are known or not: the cells are known then -/
theorem once_walk {N : Nat → Prop} (base p pl : Nat) (c : Cel) (w : World) (hop : 0 ≤ c.op ∧ c.op ≤ 5) (hp : w.cell? ⟨pl, 0, none⟩ = some (.pointer (some ⟨p, 0, none⟩))) (hne : pl ≠ p) (hC : CelAt N w base p c) (hNw : ∀ k, N k → k < w.heap.size) (hz : base ≤ w.heap.size) :
    Calls Tryd.prog 60 #[.pointer (some ⟨p, 10, none⟩), .func (.func 61) #[] #[.pointer (some ⟨pl, 0, none⟩)]] w fun e w' => e = .returned (.tuple #[]) ∧
      CelAt N w' base p { c with once := true } ∧ Oth1 p w w' ∧ Below base w w' := by
  obtain ⟨vd, vl, hv⟩ := hC
  have c10 := hv.blk.cell 10
  simp [celCells] at c10
  by_cases ho : c.once = true
  · rw [ho] at c10
    have e : c = { c with once := true } := by cases c; simp_all
    have E := Lib.hid e
    clear e
    go_enter Tryd.func60, Tryd.ntmps60
    go_wp2_with fail
    refine (bload ⟨p, 10, none⟩ true _ c10).mono ?_
    rintro e w' ⟨rfl, rfl⟩
    go_wp2_with fail
    go_end0
    exact ⟨rfl, ⟨vd, vl, by rw [← E.out]; exact hv⟩, fun _ _ _ => rfl, Below.refl _ _⟩
  · have ho' : c.once = false := by simpa using ho
    rw [ho'] at c10
    have hB : Blk w p 76 (celArr c vd vl 0 0) := by
      have := hv.blk
      rw [celCells_arr, ho'] at this
      exact this
    have Hho := Lib.hid ho'
    clear ho ho'
    go_enter Tryd.func60, Tryd.ntmps60
    go_wp2_with fail
    refine (bload ⟨p, 10, none⟩ false _ c10).mono ?_
    rintro e w' ⟨rfl, rfl⟩
    go_wp2_with fail
    refine (slow_walk base p pl c vd vl _ hop hp hne hB hv.base_ hz).mono ?_
    rintro e w2 ⟨rfl, v, hB2, hown, ho2, hb2⟩
    go_wp2_with fail
    go_end0
    refine ⟨rfl, ⟨vd, v, hB2, ?_, fun _ => own_mono hown hz, (fun h => by cases h), hv.base_, hv.np, hv.nd, fun k hk hn => ?_⟩, ho2, hb2⟩
    · exact own_of_block hv.deps fun b hb => ho2 b (hv.deps.lt b hb).2 fun e => own_ne hv.deps hv.blk (by decide) (by rw [hb, e])
    · have h1 := hNw k hn
      have h2 := (hown.lt k hk).1
      omega
end Go.Proofs.YtnadldoebfmgmaaDoor.q
