/-
  THE WALKS of (*query.Sheet).Some$1, the deferred closure that recovers.
-/
import Derived.Test.YtnadldoebfmgmaaDoorAE
import Derived.Recover
namespace Go.Proofs.YtnadldoebfmgmaaDoor.q
open Go.RowKit

/-- (*sync/atomic.Int64).Store -/
theorem store_walk (a : Addr) (x y : Int) (w : World) (hc : w.cell? a = some (.int .i64 x)) (hz : w.frozen? a = false) :
    Calls Tryd.prog 29 #[.pointer (some a), .int .i64 y] w fun e w' => e = .returned (.tuple #[]) ∧ w' = w.setCell a (.int .i64 y) := by
  have hl := run_call_store (P := Tryd.prog) Tryd.func36 (by kernel_rfl) (by kernel_rfl) (by kernel_rfl) (by kernel_rfl) (k := .i64) (y := y) hc hz
  go_enter Tryd.func29, Tryd.ntmps29
  go_wp2
  go_end0
  exact ⟨rfl, rfl⟩
set_option maxRecDepth 100000 in
/-- nothing to recover: 'most' is what it was -/
theorem some_idle {bx sp bo bn be : Nat} {v : Value} (w : World) (cx : w.cell? ⟨bx, 0, none⟩ = some (.pointer (some ⟨sp, 0, none⟩))) (cm : w.cell? ⟨sp, 5, none⟩ = some v) (fm : w.frozen? ⟨sp, 5, none⟩ = false) :
    CallsD Tryd.prog 28 #[.pointer (some ⟨bx, 0, none⟩), .pointer (some ⟨bo, 0, none⟩), .pointer (some ⟨bn, 0, none⟩), .pointer (some ⟨be, 0, none⟩)] .returning w fun e u' w' =>
      e = .returned (.tuple #[]) ∧ u' = .returning ∧ w' = w.setCell ⟨sp, 5, none⟩ (.int .i64 (-1)) := by
  refine callsD_of_wpS Tryd.func28 rfl fun c₀ cs hu => ?_
  apply wpS_seq
  apply wpS_region
  simp [wpOpsS, go_sem, Tryd.ntmps28, Exit.thenS, cx, cm, fm]
  apply wpS_seq
  apply wpS_region
  simp [wpOpsS, go_sem, recoverD, hu, Exit.thenS]
  apply wpS_seq
  apply wpS_region
  simp [wpOpsS, go_sem, Exit.thenS]
  refine wpS_cond (t := false) (by simp [Act.eval, Array.replicate]) ?_
  simp only [Bool.false_eq_true, if_false]
  refine wpS_of_wp (wp_skip ?_)
  cases c₀
  simp_all [bodyPostS, results, Tryd.results28]
theorem enough_assert (xT : TypeId) (w : World) : Sem.run Tryd.prog (Instr.typeAssert (.iface 89 (.agg #[])) xT 89 true) w = .ok (.tuple #[.agg #[], .bool true]) w := by
  simp [Instr.typeAssert, run_underlying Tryd.underlying89, go_sem, Result.andThen]
/-- the sheet that is given back: as before, but for what was listed -/
structure Back (s s' y : Sh) : Prop where
  len : y.cs.length = s.cs.length
  sets : y.sets = s'.sets
  most : y.most = -1
  cel : ∀ j, y.at j = { s.at j with once := (s'.at j).once }
/-- the rest comes to its end -/
def RestP (F : World → Prop) (e : Exit) (a : Act) (w : World) : Prop :=
  match e with
  | .normal => a.defers = [] ∧ F w
  | _ => False
theorem RestP.normal {F : World → Prop} {a : Act} {w : World} (h : a.defers = []) (hF : F w) : RestP F .normal a w := ⟨h, hF⟩
section
variable {N : Nat → Prop} {w w' : World} {base sp rb rc : Nat} {lk : Int} {ps : List Nat} {vc : Value} {s : Sh}
/-- a rule's count is laid -/
theorem ShAt.setRunTo (h : ShAt N w base sp lk ps vc rb rc s) {k : Nat} (hk : k < ps.length) (hbr : base ≤ rb) (r : Int) :
    ShAt N (w.setCell ⟨rb, k, none⟩ (.int .i64 r)) base sp lk ps vc rb rc (s.upd k fun c => { c with runs := r }) ∧ Below base w (w.setCell ⟨rb, k, none⟩ (.int .i64 r)) := by
  have hk' : k < s.cs.length := by rw [← h.len]; exact hk
  have hty : ∀ {b : Nat} {t : TypeId} {cs : Array Value}, Blk w b t cs → t ≠ 95 → b ≠ rb := fun hb ht e => own_ne h.runs hb (Ne.symm ht) (by rw [e]; rfl)
  have hrow : ∀ {b n size : Nat} {t : TypeId} {v : Value} {xs : List Value}, w.ownsRow b t size v n xs → t ≠ 95 → (w.setCell ⟨rb, k, none⟩ (.int .i64 r)).ownsRow b t size v n xs := fun ho ht => own_of_block ho fun j hj => Below.heap_setCell _ _ _ _ fun e => by
    obtain ⟨cs, fr, h1⟩ := own_ty ho j hj
    obtain ⟨cs', fr', h2⟩ := own_ty h.runs rb rfl
    rw [e, h2] at h1
    injection h1 with h1
    injection h1 with _ h1 _
    exact ht h1.symm
  refine ⟨⟨h.sheet.far (hty h.sheet (by decide)) _, hrow h.cells (by decide), ?_, fun i hi => ?_, h.nod, by rw [upd_len]; exact h.len, h.base_, h.nsp, h.nc, h.nr⟩, (Below.refl _ _).setCell (p := ⟨rb, k, none⟩) hbr _⟩
  · have e : (s.upd k fun c => { c with runs := r }).cs.map (fun c => Value.int .i64 c.runs) = (s.cs.map fun c => Value.int .i64 c.runs).set k (.int .i64 r) := by
      apply List.ext_getElem?
      intro i
      show ((s.cs.modify k _).map _)[i]? = _
      rw [List.getElem?_map, List.getElem?_set]
      by_cases hki : k = i
      · subst hki
        rw [List.getElem?_modify_eq, List.getElem?_eq_getElem hk', if_pos rfl, if_pos (by simpa using hk')]
        have e2 : s.at k = s.cs[k] := by unfold Sh.at; rw [List.getD_eq_getElem?_getD, List.getElem?_eq_getElem hk']; rfl
        rfl
      · rw [List.getElem?_modify_ne _ _ hki, if_neg hki, List.getElem?_map]
    rw [e]
    exact (h.runs.stored k _).1
  · obtain ⟨vd, vl, hv⟩ := h.each i hi
    have hc : CelV N (w.setCell ⟨rb, k, none⟩ (.int .i64 r)) base ps[i] (s.at i) vd vl :=
      ⟨hv.blk.far (hty hv.blk (by decide)) _, hrow hv.deps (by decide), fun e => hrow (hv.l1 e) (by decide), hv.l0, hv.base_, hv.np, hv.nd, hv.nl⟩
    by_cases hki : k = i
    · subst hki
      rw [upd_at_same hk']
      exact ⟨vd, vl, hc.blk, hc.deps, hc.l1, hc.l0, hc.base_, hc.np, hc.nd, hc.nl⟩
    · rw [upd_at_ne hki]
      exact ⟨vd, vl, hc⟩
end
/-- the stores of a cell that is given back -/
theorem back_store {w : World} {p base : Nat} {c : Cel} {vo vl : Value} (vd : Value) (n e since : Int) (ran : Bool) (dl : List Dep) (hB : Blk w p 76 (celCells c vo vl)) (hb : base ≤ p) :
    Blk ((((((w.setCell ⟨p, 5, none⟩ (.int .i64 n)).setCell ⟨p, 6, none⟩ (.int .i64 e)).setCell ⟨p, 4, none⟩ (.bool ran)).setCell ⟨p, 7, none⟩ vd).setCell ⟨p, 8, none⟩ (.int .i64 since)).drew) p 76 (celCells { c with n := n, e := e, ran := ran, deps := dl, since := since } vd vl) ∧
    Oth1 p w ((((((w.setCell ⟨p, 5, none⟩ (.int .i64 n)).setCell ⟨p, 6, none⟩ (.int .i64 e)).setCell ⟨p, 4, none⟩ (.bool ran)).setCell ⟨p, 7, none⟩ vd).setCell ⟨p, 8, none⟩ (.int .i64 since)).drew) ∧
    Below base w ((((((w.setCell ⟨p, 5, none⟩ (.int .i64 n)).setCell ⟨p, 6, none⟩ (.int .i64 e)).setCell ⟨p, 4, none⟩ (.bool ran)).setCell ⟨p, 7, none⟩ vd).setCell ⟨p, 8, none⟩ (.int .i64 since)).drew) := by
  refine ⟨blk_drew ?_, oth1_drew ?_, ?_⟩
  · have h1 := ((((hB.set_ 5 (.int .i64 n)).set_ 6 (.int .i64 e)).set_ 4 (.bool ran)).set_ 7 vd).set_ 8 (.int .i64 since)
    exact h1
  · intro b hb' hn
    rw [Below.heap_setCell _ _ _ b hn, Below.heap_setCell _ _ _ b hn, Below.heap_setCell _ _ _ b hn, Below.heap_setCell _ _ _ b hn, Below.heap_setCell _ _ _ b hn]
  · exact ((((((Below.refl base w).setCell (p := ⟨p, 5, none⟩) hb _).setCell (p := ⟨p, 6, none⟩) hb _).setCell (p := ⟨p, 4, none⟩) hb _).setCell (p := ⟨p, 7, none⟩) hb _).setCell (p := ⟨p, 8, none⟩) hb _).drew
/-- half way back -/
structure BkL (N : Nat → Prop) (w wr : World) (base sp : Nat) (lk : Int) (ps : List Nat) (vc : Value) (rb rc : Nat) (s s' y : Sh) (k : Nat) : Prop where
  sh : ShAt N wr base sp lk ps vc rb rc y
  len : y.cs.length = s.cs.length
  sets : y.sets = s'.sets
  most : y.most = -1
  cel : ∀ j, y.at j = if j < k then { s.at j with once := (s'.at j).once } else s'.at j
  keep : KeepN N w wr
  below : Below base w wr
  led : LedB w.heap.size w wr
theorem hw_size {N : Nat → Prop} {base : Nat} (w wr : World) (hb : Below base w wr) (_ : ∀ j, N j → j < w.heap.size) (_ : KeepN N w wr) : w.heap.size ≤ wr.heap.size := hb.size
theorem back_cel {c c' : Cel} (h : c'.op = c.op ∧ c'.a = c.a ∧ c'.b = c.b ∧ c'.c = c.c) (hb : c'.busy = c.busy) : { c' with n := c.n, e := c.e, ran := c.ran, deps := c.deps, since := c.since, runs := c.runs } = { c with once := c'.once } := by
  cases c; cases c'; simp_all
section
variable {N : Nat → Prop} {w wr wA : World} {base sp rb rc k : Nat} {lk : Int} {ps : List Nat} {vc vdk vlk vd : Value} {s s' y : Sh}
/-- a cell more is given back -/
theorem BkL.next (h : BkL N w wr base sp lk ps vc rb rc s s' y k) (hR : RelA s s') (hk : k < ps.length) (hN : ∀ j, N j → j < w.heap.size) (hw : w.heap.size ≤ wr.heap.size)
    (hvk : CelV N wr base ps[k] (y.at k) vdk vlk) (hd : wr.ownsRow base 115 3 vd (s.at k).deps.length (depCells (s.at k).deps)) (nd : ∀ b, vd.ownBlock = some b → ¬ N b)
    (hst : Blk wA ps[k] 76 (celCells { y.at k with n := (s.at k).n, e := (s.at k).e, ran := (s.at k).ran, deps := (s.at k).deps, since := (s.at k).since } vd vlk) ∧ Oth1 ps[k] wr wA ∧ Below base wr wA) (q : Nat) :
    ∃ y', BkL N w ((wA.drewN q).setCell ⟨rb, k, none⟩ (.int .i64 (s.at k).runs)) base sp lk ps vc rb rc s s' y' (k + 1) := by
  obtain ⟨h1, h2, h3⟩ := hst
  have hky : k < y.cs.length := by rw [← h.sh.len]; exact hk
  have hbr : base ≤ rb := (h.sh.runs.lt rb rfl).1
  have hA : ShAt N wA base sp lk ps vc rb rc (y.upd k fun c => { c with n := (s.at k).n, e := (s.at k).e, ran := (s.at k).ran, deps := (s.at k).deps, since := (s.at k).since }) :=
    h.sh.turn hk h2 ⟨vd, vlk, h1, own_of_block hd fun b hb => h2 b (hd.lt b hb).2 fun e => own_ne hd hvk.blk (by decide) (by rw [hb, e]),
      fun e => own_of_block (hvk.l1 e) fun b hb => h2 b ((hvk.l1 e).lt b hb).2 fun e' => own_ne (hvk.l1 e) hvk.blk (by decide) (by rw [hb, e']), hvk.l0, hvk.base_, hvk.np, nd, hvk.nl⟩ rfl
  have hB := (hA.drewN q).setRunTo hk hbr (s.at k).runs
  have hkw : KeepN N wr wA := fun j hj => h2 j (by have := hN j hj; omega) fun e => hvk.np (e ▸ hj)
  refine ⟨_, hB.1, by rw [upd_len, upd_len]; exact h.len, h.sets, h.most, fun j => ?_, (h.keep.trans hkw).trans (show KeepN N (wA.drewN q) _ from KeepN.setCell (p := ⟨rb, k, none⟩) h.sh.nr _), h.below.trans (h3.trans ((below_drewN (Below.refl _ _) q).trans hB.2)), ?_⟩
  · rw [upd_upd]
    by_cases hj : k = j
    · subst hj
      rw [upd_at_same hky, if_pos (by omega), h.cel k, if_neg (by omega)]
      exact back_cel (hR.rule k) (hR.busy k)
    · rw [upd_at_ne hj, h.cel j]
      by_cases hlt : j < k
      · rw [if_pos hlt, if_pos (by omega)]
      · rw [if_neg hlt, if_neg (by omega)]
  · exact (h.led.trans (LedB.oth h2 hw hvk.blk)).trans (show LedB _ (wA.drewN q) _ from LedB.set_row (hA.drewN q).runs rfl (by decide) _)
/-- all are given back -/
theorem BkL.done (h : BkL N w wr base sp lk ps vc rb rc s s' y ps.length) (hl : ps.length = s.cs.length) (hl' : s'.cs.length = s.cs.length) : Back s s' y :=
  ⟨h.len, h.sets, h.most, fun j => by
    rw [h.cel j]
    by_cases hj : j < ps.length
    · rw [if_pos hj]
    · rw [if_neg hj]
      have e1 : s.at j = Cel.dflt := by unfold Sh.at; rw [List.getD_eq_getElem?_getD, List.getElem?_eq_none (by omega)]; rfl
      have e2 : s'.at j = Cel.dflt := by unfold Sh.at; rw [List.getD_eq_getElem?_getD, List.getElem?_eq_none (by omega)]; rfl
      rw [e1, e2]⟩
end
set_option maxHeartbeats 4000000 in
set_option maxRecDepth 100000 in
/-- what was needed too many runs is given back as it was -/
theorem some_restore {N : Nat → Prop} {w : World} {base sp rb rc bx bo bn be : Nat} {lk : Int} {ps : List Nat} {vc v un ue : Value} {s s' : Sh} {vd : Nat → Value} {b0 : Nat} (hS : ShAt N w base sp lk ps vc rb rc s') (hR : RelA s s') (hsm : ps.length ≤ 1048576)
    (cx : w.cell? ⟨bx, 0, none⟩ = some (.pointer (some ⟨sp, 0, none⟩))) (co : w.cell? ⟨bo, 0, none⟩ = some v) (cn : w.cell? ⟨bn, 0, none⟩ = some un) (ce : w.cell? ⟨be, 0, none⟩ = some ue) (fn : w.frozen? ⟨bn, 0, none⟩ = false) (fe : w.frozen? ⟨be, 0, none⟩ = false)
    (hN : ∀ j, N j → j < w.heap.size) (hzb : base ≤ w.heap.size) (Nx : N bx) (No : N bo) (Nn : N bn) (Ne : N be) (nne : bn ≠ be) (hz : base ≤ bn ∧ base ≤ be)
    (hv : w.ownsRow b0 92 6 v ps.length (keptCells s vd ps.length)) (Nv : ∀ k, v.ownBlock = some k → N k)
    (hled : ∀ i < ps.length, w.ownsRow base 115 3 (vd i) (s.at i).deps.length (depCells (s.at i).deps) ∧ ∀ k, (vd i).ownBlock = some k → ¬ N k) :
    CallsD Tryd.prog 28 #[.pointer (some ⟨bx, 0, none⟩), .pointer (some ⟨bo, 0, none⟩), .pointer (some ⟨bn, 0, none⟩), .pointer (some ⟨be, 0, none⟩)] (.panicking enoughC) w fun e u' w' =>
      e = .returned (.tuple #[]) ∧ u' = .panicking [{ v := enoughV, recovered := true }] ∧ ∃ y, ShAt N w' base sp lk ps vc rb rc y ∧ Back s s' y ∧ (∀ j, N j → j ≠ bn → j ≠ be → w'.heap[j]? = w.heap[j]?) ∧ Below base w w' ∧ w'.cell? ⟨bn, 0, none⟩ = some (.int .i64 0) ∧ w'.cell? ⟨be, 0, none⟩ = some (errQ 14) := by
  have cm := hS.sheet.cell 5
  have fm := hS.sheet.frozen 5
  simp at cm
  refine callsD_of_wpS Tryd.func28 rfl fun c₀ cs hu => ?_
  unfold enoughC enoughV at hu
  apply wpS_seq
  apply wpS_region
  simp [wpOpsS, go_sem, Tryd.ntmps28, Exit.thenS, cx, cm, fm]
  apply wpS_seq
  apply wpS_region
  simp [wpOpsS, go_sem, recoverD, hu, Exit.thenS]
  apply wpS_seq
  apply wpS_region
  simp [wpOpsS, go_sem, Exit.thenS]
  refine wpS_cond (t := true) (by simp [Act.eval, Array.replicate]) ?_
  simp only [if_true]
  refine wpS_of_wp ?_
  refine wp_mono (Q := RestP fun w' => ∃ y, ShAt N w' base sp lk ps vc rb rc y ∧ Back s s' y ∧ (∀ j, N j → j ≠ bn → j ≠ be → w'.heap[j]? = w.heap[j]?) ∧ Below base w w' ∧ w'.cell? ⟨bn, 0, none⟩ = some (.int .i64 0) ∧ w'.cell? ⟨be, 0, none⟩ = some (errQ 14)) ?_ ?_
  rotate_left
  · intro e a w' h
    cases e with
    | normal => exact ⟨h.1, _, rfl, _, by simp [results, Tryd.results28], rfl, rfl, h.2⟩
    | _ => exact h.elim
  simp only [Array.replicate_succ, Array.replicate_zero, List.push_toArray, List.append_toArray, List.nil_append, List.cons_append, List.setIfInBounds_toArray, List.set_cons_zero, List.set_cons_succ]
  have hta := enough_assert
  have hs1 : ShAt N (w.setCell ⟨sp, 5, none⟩ (.int .i64 (-1))) base sp lk ps vc rb rc { s' with sets := s'.sets, most := -1 } := hS.setSheet (j := 5) (u := .int .i64 (-1)) (lk' := lk) (sets' := s'.sets) (most' := -1) rfl
  have hk1 : KeepN N w (w.setCell ⟨sp, 5, none⟩ (.int .i64 (-1))) := KeepN.setCell (p := ⟨sp, 5, none⟩) hS.nsp _
  have hb1 : Below base w (w.setCell ⟨sp, 5, none⟩ (.int .i64 (-1))) := (Below.refl _ _).setCell (p := ⟨sp, 5, none⟩) hS.base_ _
  have hl1 : LedB w.heap.size w (w.setCell ⟨sp, 5, none⟩ (.int .i64 (-1))) := LedB.set (a := ⟨sp, 5, none⟩) hS.sheet (by decide) _
  have hz1 : w.heap.size = (w.setCell ⟨sp, 5, none⟩ (.int .i64 (-1))).heap.size := by simp
  clear cm fm
  go_upto_region 6 with fail
  generalize w.setCell ⟨sp, 5, none⟩ (.int .i64 (-1)) = w1 at *
  have hb2 : Below w1.heap.size w1 (w1.alloc (.cells #[] 89)) := (Below.refl _ _).alloc (Nat.le_refl _) _
  have HL : Hid (BkL N w (w1.alloc (.cells #[] 89)) base sp lk ps vc rb rc s s' { s' with sets := s'.sets, most := -1 } 0) :=
    ⟨hs1.below hb2, hR.len, rfl, rfl, fun j => by rw [if_neg (by omega)]; rfl, hk1.trans fun j hj => hb2.block j (by have := hN j hj; omega), hb1.trans (hb2.mono (by omega)), hl1.trans (LedB.below hb2 (by omega))⟩
  clear hs1 hk1 hb1 hl1 hz1 hb2
  have CX : Hid (∀ W, KeepN N w W → W.cell? ⟨bx, 0, none⟩ = some (.pointer (some ⟨sp, 0, none⟩)) ∧ W.cell? ⟨bo, 0, none⟩ = some v ∧ W.cell? ⟨bn, 0, none⟩ = some un ∧ W.cell? ⟨be, 0, none⟩ = some ue ∧ W.frozen? ⟨bn, 0, none⟩ = false ∧ W.frozen? ⟨be, 0, none⟩ = false ∧ W.ownsRow b0 92 6 v ps.length (keptCells s vd ps.length)) := fun W h =>
    ⟨(World.cell?_of_block (w := w) (h bx Nx)).trans cx, (World.cell?_of_block (w := w) (h bo No)).trans co, (World.cell?_of_block (w := w) (h bn Nn)).trans cn, (World.cell?_of_block (w := w) (h be Ne)).trans ce,
     (by unfold World.frozen? at fn ⊢; rw [h bn Nn]; exact fn), (by unfold World.frozen? at fe ⊢; rw [h be Ne]; exact fe), own_of_block hv fun k hk => h k (Nv k hk)⟩
  obtain ⟨A, cap, rfl⟩ := vc_form hS
  have cx2 := (CX.out _ HL.out.keep).1
  have m2 := HL.out.sh.sheet.cell 2
  simp at m2
  have HS := Lib.hid hS
  have HR := Lib.hid hR
  have Hled := Lib.hid hled
  have HNn := Lib.hid hN
  have Hnod := Lib.hid (And.intro Nx (And.intro No (And.intro Nn Ne)))
  clear hS hR hled hN Nx No Nn Ne cx co cn ce fn fe hv hta
  go_wp2_with fail
  go_loopw [28] (fun i wr => ∃ k : Nat, i = .int .i64 k ∧ k ≤ ps.length ∧ ∃ y, Hid (BkL N w wr base sp lk ps (.slice A ps.length cap) rb rc s s' y k)) (fun i _ => ps.length - (intOf i).toNat)
  case atStart => exact ⟨0, rfl, Nat.zero_le _, _, HL⟩
  case round =>
    clear HL cx2 m2
    obtain ⟨k, rfl, hk, y, HL⟩ := hrel
    by_cases hlt : k < ps.length
    · have i1 : (0 : Int) ≤ (k : Int) := by omega
      have i2 : (k : Int) < (ps.length : Int) := by omega
      have i3 : decide (k < ps.length) = true := by simpa using hlt
      obtain ⟨gc, gcap, hgc, _, _⟩ := World.ownsRow.form HL.out.sh.cells (by omega)
      obtain ⟨rfl, rfl⟩ : A = some ⟨gc, 0, none⟩ ∧ cap = gcap := by injection hgc with h1 _ h2; exact ⟨h1, h2⟩
      clear hgc
      obtain ⟨cx, co, _, _, _, _, hv⟩ := CX.out wr HL.out.keep
      obtain ⟨ob, oc, hvf, _, _⟩ := World.ownsRow.form hv (by omega)
      subst hvf
      have Nob : N ob := Nv ob rfl
      obtain ⟨vdk, vlk, hvk⟩ := HL.out.sh.each k hlt
      obtain ⟨hdk, ndk⟩ := Hled.out k hlt
      have hdw : wr.ownsRow base 115 3 (vd k) (s.at k).deps.length (depCells (s.at k).deps) := own_of_block hdk fun b hb => HL.out.led b (hdk.lt b hb).2 (by obtain ⟨cs, fr, h⟩ := own_ty hdk b hb; exact ⟨cs, fr, h⟩)
      obtain ⟨Ad, cd, hvd⟩ := own_form hdw
      have KG : ∀ j, j < 6 → (keptCells s vd ps.length)[k * 6 + j]? = (keptC (s.at k) (vd k))[j]? := fun j hj => keptCells_get s vd ps.length k j hj hlt
      have o0 : wr.cell? ⟨ob, k * 6, none⟩ = some (.int .i64 (s.at k).n) := own_cell hv (k * 6 + 0) _ (KG 0 (by omega))
      have o1 : wr.cell? ⟨ob, k * 6 + 1, none⟩ = some (.int .i64 (s.at k).e) := own_cell hv (k * 6 + 1) _ (KG 1 (by omega))
      have o2 : wr.cell? ⟨ob, k * 6 + 2, none⟩ = some (.bool (s.at k).ran) := own_cell hv (k * 6 + 2) _ (KG 2 (by omega))
      have o3 : wr.cell? ⟨ob, k * 6 + 3, none⟩ = some (.slice Ad (s.at k).deps.length cd) := by rw [← hvd]; exact own_cell hv (k * 6 + 3) _ (KG 3 (by omega))
      have o4 : wr.cell? ⟨ob, k * 6 + 4, none⟩ = some (.int .i64 (s.at k).since) := own_cell hv (k * 6 + 4) _ (KG 4 (by omega))
      have o5 : wr.cell? ⟨ob, k * 6 + 5, none⟩ = some (.int .i64 (s.at k).runs) := own_cell hv (k * 6 + 5) _ (KG 5 (by omega))
      have cg : wr.cell? ⟨gc, k, none⟩ = some (.pointer (some ⟨ps[k], 0, none⟩)) := own_cell HL.out.sh.cells k _ (by rw [List.getElem?_map, List.getElem?_eq_getElem hlt]; rfl)
      have c4 := hvk.blk.cell 4
      have c5 := hvk.blk.cell 5
      have c6 := hvk.blk.cell 6
      have c7 := hvk.blk.cell 7
      have c8 := hvk.blk.cell 8
      have f4 := hvk.blk.frozen 4
      have f5 := hvk.blk.frozen 5
      have f6 := hvk.blk.frozen 6
      have f7 := hvk.blk.frozen 7
      have f8 := hvk.blk.frozen 8
      simp [celCells] at c4 c5 c6 c7 c8
      have hn1 : ps[k] ≠ bo := fun e => hvk.np (e ▸ Hnod.out.2.1)
      have hn2 : ps[k] ≠ ob := fun e => hvk.np (e ▸ Nob)
      have hww : w.heap.size ≤ wr.heap.size := hw_size w wr HL.out.below HNn.out HL.out.keep
      rw [hvd] at hdw ndk
      have HNX := Lib.hid fun (wA : World) hst (q : Nat) => BkL.next (wA := wA) HL.out HR.out hlt HNn.out hww hvk hdw ndk hst q
      have hst := back_store (base := base) (.slice Ad (s.at k).deps.length cd) (s.at k).n (s.at k).e (s.at k).since (s.at k).ran (s.at k).deps hvk.blk hvk.base_
      have HST := Lib.hid hst
      have HSX : Hid (∀ wA, Oth1 ps[k] wr wA → wA.cell? ⟨bx, 0, none⟩ = some (.pointer (some ⟨sp, 0, none⟩)) ∧ wA.cell? ⟨bo, 0, none⟩ = some (.slice (some ⟨ob, 0, none⟩) ps.length oc) ∧ wA.cell? ⟨ob, k * 6 + 5, none⟩ = some (.int .i64 (s.at k).runs) ∧ wA.cell? ⟨sp, 3, none⟩ = some (.slice (some ⟨rb, 0, none⟩) ps.length rc) ∧ (∃ u, wA.cell? ⟨rb, k, none⟩ = some (.int .i64 u)) ∧ wA.frozen? ⟨rb, k, none⟩ = false) := fun wA h => by
        have hy := HL.out.sh
        have hNw : ∀ j, N j → wA.heap[j]? = wr.heap[j]? := fun j hj => h j (by have := HNn.out j hj; omega) fun e => hvk.np (e ▸ hj)
        have m3 := hy.sheet.cell 3
        simp at m3
        have hk' : k < y.cs.length := by rw [← hy.len]; exact hlt
        have cr : wr.cell? ⟨rb, k, none⟩ = some (.int .i64 (y.at k).runs) := own_cell hy.runs k _ (by
          have e2 : y.at k = y.cs[k] := by unfold Sh.at; rw [List.getD_eq_getElem?_getD, List.getElem?_eq_getElem hk']; rfl
          rw [List.getElem?_map, List.getElem?_eq_getElem hk', e2]; rfl)
        have fr := hy.runs.frozenAt k
        have hrb : wA.heap[rb]? = wr.heap[rb]? := h rb (hy.runs.lt rb rfl).2 fun e => own_ne hy.runs hvk.blk (by decide) (by rw [e]; rfl)
        exact ⟨(World.cell?_of_block (w := wr) (hNw bx Hnod.out.1)).trans cx, (World.cell?_of_block (w := wr) (hNw bo Hnod.out.2.1)).trans co, (World.cell?_of_block (w := wr) (hNw ob Nob)).trans o5,
          (World.cell?_of_block (w := wr) (h sp hy.sheet.lt (blk_ne hy.sheet hvk.blk (by decide)))).trans m3, ⟨_, (World.cell?_of_block (w := wr) hrb).trans cr⟩, by unfold World.frozen? at fr ⊢; rw [hrb]; exact fr⟩
      obtain ⟨p, hp⟩ : ∃ p, p = ps[k] := ⟨_, rfl⟩
      rw [← hp] at cg c4 c5 c6 c7 c8 f4 f5 f6 f7 f8 hn1 hn2 hst
      have hr1 : rb ≠ bx := fun e => HL.out.sh.nr (e ▸ Hnod.out.1)
      have hr2 : rb ≠ bo := fun e => HL.out.sh.nr (e ▸ Hnod.out.2.1)
      have hr3 : rb ≠ ob := fun e => HL.out.sh.nr (e ▸ Nob)
      have hr4 : rb ≠ sp := fun e => own_ne HL.out.sh.runs HL.out.sh.sheet (by decide) (by rw [← e]; rfl)
      have Hr := Lib.hid (And.intro hr1 (And.intro hr2 (And.intro hr3 hr4)))
      clear hvk hdk hdw KG hv hvd ndk HL Nob hww hr1 hr2 hr3 hr4
      have Hp := Lib.hid hp
      clear hp
      go_upto_region 9 with fail
      go_region_held3 (fun w' => w'.cell? ⟨bo, 0, none⟩ = some (.slice (some ⟨ob, 0, none⟩) ps.length oc) ∧ w'.cell? ⟨ob, k * 6, none⟩ = some (.int .i64 (s.at k).n) ∧ w'.cell? ⟨ob, k * 6 + 1, none⟩ = some (.int .i64 (s.at k).e) ∧ w'.cell? ⟨ob, k * 6 + 2, none⟩ = some (.bool (s.at k).ran) ∧ w'.cell? ⟨ob, k * 6 + 3, none⟩ = some (.slice Ad (s.at k).deps.length cd) ∧ w'.cell? ⟨ob, k * 6 + 4, none⟩ = some (.int .i64 (s.at k).since)) (first | (go_keep; done)) (fail)
      clear c4 c5 c6 c7 c8 f4 f5 f6 f7 f8 cg o0 o1 o2 o3 o4 o5 co cx hn1 hn2
      generalize ((((((wr.setCell ⟨p, 5, none⟩ (.int .i64 (s.at k).n)).setCell ⟨p, 6, none⟩ (.int .i64 (s.at k).e)).setCell ⟨p, 4, none⟩ (.bool (s.at k).ran)).setCell ⟨p, 7, none⟩ (.slice Ad (s.at k).deps.length cd)).setCell ⟨p, 8, none⟩ (.int .i64 (s.at k).since)).drew) = wA at hst ⊢
      rw [Hp.out] at hst
      obtain ⟨d1, d2, d3, d4, ⟨u0, d5⟩, d6⟩ := HSX.out wA hst.2.1
      have HB := Lib.hid (HNX.out wA hst 1)
      obtain ⟨hr1, hr2, hr3, hr4⟩ := Hr.out
      clear hst HSX HNX HST
      have HSt := Lib.hid (store_walk ⟨rb, k, none⟩ u0 (s.at k).runs wA.drew d5 d6)
      go_upto_region 10 with fail
      go_region_held3 (fun w' => w'.cell? ⟨bx, 0, none⟩ = some (.pointer (some ⟨sp, 0, none⟩)) ∧ w'.cell? ⟨bo, 0, none⟩ = some (.slice (some ⟨ob, 0, none⟩) ps.length oc) ∧ w'.cell? ⟨ob, k * 6 + 5, none⟩ = some (.int .i64 (s.at k).runs) ∧ w'.cell? ⟨sp, 3, none⟩ = some (.slice (some ⟨rb, 0, none⟩) ps.length rc)) (first | (go_keep; done)) ((go_at_call 29; refine HSt.out.mono ?_; rintro e w6 ⟨rfl, rfl⟩))
      go_wp2_with fail
      obtain ⟨y', hy'⟩ := HB.out
      go_roundw
      case rel => exact ⟨k + 1, by go_num, by omega, y', hy'⟩
      case measure => simp [intOf]; omega
    · have i3 : decide (k < ps.length) = false := by simpa using hlt
      have hke : k = ps.length := by omega
      obtain ⟨_, _, cn, ce, fn, fe, _⟩ := CX.out wr HL.out.keep
      have hfin := HL.out
      rw [hke] at hfin
      have HF := Lib.hid hfin
      have HLn := Lib.hid HS.out.len
      clear HL hke hfin
      go_wp2_with fail
      refine RestP.normal rfl ⟨y, HF.out.sh.other (fun j _ hj => ?_) fun _ => .inl, HF.out.done (by rw [HLn.out]; exact HR.out.len) HR.out.len, fun j hj h1 h2 => ?_, (HF.out.below.setCell (p := ⟨bn, 0, none⟩) hz.1 _).setCell (p := ⟨be, 0, none⟩) hz.2 _, ?_, ?_⟩
      · rw [Below.heap_setCell _ ⟨be, 0, none⟩ _ j fun e => hj (by rw [e]; exact Hnod.out.2.2.2), Below.heap_setCell _ ⟨bn, 0, none⟩ _ j fun e => hj (by rw [e]; exact Hnod.out.2.2.1)]
      · rw [Below.heap_setCell _ ⟨be, 0, none⟩ _ j h2, Below.heap_setCell _ ⟨bn, 0, none⟩ _ j h1]
        exact HF.out.keep j hj
      · rw [World.cell?_setCell_other (h := fun e => nne (by injection e with e; exact e.symm))]
        exact World.cell?_setCell_same _ _ _ cn
      · exact World.cell?_setCell_same _ _ _ (u := ue) ((World.cell?_setCell_other _ ⟨bn, 0, none⟩ ⟨be, 0, none⟩ _ (fun e => nne (by injection e))).trans ce)
end Go.Proofs.YtnadldoebfmgmaaDoor.q
