/-
  THE WALK of (*query.Sheet).bring, the arm that brings; a bringing's contract.
-/
import Derived.Test.YtnadldoebfmgmaaDoorQB
namespace Go.Proofs.YtnadldoebfmgmaaDoor.q
open Go.RowKit

section
variable {br : Sh → Nat → Sh × (Int × Int)} {l : List Dep} {i : Nat} {a : Bool} {y : Sh} {x : Sh × (Int × Int)}
theorem chk_same (h : i < l.length) (hx : br y l[i].c = x) (e : x.2.1 = l[i].n ∧ x.2.2 = l[i].e) : checkM br y (l.drop i) a = checkM br x.1 (l.drop (i + 1)) a := by
  subst hx
  rw [List.drop_eq_getElem_cons h]
  show (let x := br y l[i].c; if x.2.1 = l[i].n ∧ x.2.2 = l[i].e then checkM br x.1 (l.drop (i + 1)) a else (x.1, true)) = _
  simp only [e, and_self, if_true]
theorem chk_stop (h : i < l.length) (hx : br y l[i].c = x) (e : ¬ (x.2.1 = l[i].n ∧ x.2.2 = l[i].e)) : checkM br y (l.drop i) a = (x.1, true) := by
  subst hx
  rw [List.drop_eq_getElem_cons h]
  show (let x := br y l[i].c; if x.2.1 = l[i].n ∧ x.2.2 = l[i].e then checkM br x.1 (l.drop (i + 1)) a else (x.1, true)) = _
  simp only [e, if_false]
theorem chk_end (h : i = l.length) : checkM br y (l.drop i) a = (y, a) := by
  rw [List.drop_eq_nil_of_le (by omega)]; rfl
end
/-- the blocks that a bringing keeps from the sheet: its caller's, its result's box, the cell's -/
def Nbr (N : Nat → Prop) (H : Nat) : Nat → Prop := fun j => N j ∨ j = H ∨ j = H + 1
/-- the deps are being looked at -/
structure ChkP (f : Nat) (N : Nat → Prop) (w wr : World) (base sp : Nat) (lk : Int) (ps : List Nat) (vc : Value) (rb rc : Nat) (s y : Sh) (l : List Dep) (a : Bool) (i : Nat) : Prop where
  sh : ShAt N wr base sp lk ps vc rb rc y
  keep : KeepN N w wr
  below : Below base w wr
  held : Held ps.length ps s w wr
  eq : checkM (bringM f) s l a = checkM (bringM f) y (l.drop i) a
  ok : y.Ok
  ft : y.Fits
  phi : y.phi < f
  kp : Keeps s y
/-- .. and have been -/
structure ChkE (f : Nat) (N : Nat → Prop) (w wr : World) (base sp : Nat) (lk : Int) (ps : List Nat) (vc : Value) (rb rc : Nat) (s : Sh) (l : List Dep) (a : Bool) (b : Bool) : Prop where
  sh : ShAt N wr base sp lk ps vc rb rc (checkM (bringM f) s l a).1
  keep : KeepN N w wr
  below : Below base w wr
  held : Held ps.length ps s w wr
  eq : (checkM (bringM f) s l a).2 = b
section
variable {f : Nat} {N : Nat → Prop} {w wr w1 w2 : World} {base sp rb rc : Nat} {lk : Int} {ps : List Nat} {vc : Value} {s y : Sh} {l : List Dep} {a : Bool} {i : Nat}
theorem ChkP.drewN (h : ChkP f N w wr base sp lk ps vc rb rc s y l a i) (n : Nat) : ChkP f N w (wr.drewN n) base sp lk ps vc rb rc s y l a i :=
  ⟨h.sh.drewN n, h.keep, below_drewN h.below n, h.held, h.eq, h.ok, h.ft, h.phi, h.kp⟩
/-- a dep has been looked at -/
theorem ChkP.next (h : ChkP f N w wr base sp lk ps vc rb rc s y l a i) {N' : Nat → Prop} (hN : ∀ j, N j → j < wr.heap.size) (hN' : ∀ j, N j → N' j) (hb1 : Below wr.heap.size wr w1) (hz : base ≤ wr.heap.size) (hi : i < l.length) {c : Nat} (hc : l[i].c = c) (hck : c < y.cs.length)
    (hS : ShAt N' w2 base sp lk ps vc rb rc (bringM f y c).1) (hk : KeepN N' w1 w2) (hb : Below base w1 w2) (hh : Held ps.length ps y w1 w2) :
    ((bringM f y c).2.1 = l[i].n ∧ (bringM f y c).2.2 = l[i].e → ChkP f N w w2 base sp lk ps vc rb rc s (bringM f y c).1 l a (i + 1)) ∧
    (¬ ((bringM f y c).2.1 = l[i].n ∧ (bringM f y c).2.2 = l[i].e) → ChkE f N w w2 base sp lk ps vc rb rc s l a true) := by
  have g := bring_good f y c h.ok hck h.phi
  have fx := bring_fits h.ok h.ft hck h.phi
  have hS2 : ShAt N w2 base sp lk ps vc rb rc (bringM f y c).1 := hS.other (fun _ _ _ => rfl) fun j hj => .inl (hN' j hj)
  have hK2 : KeepN N w w2 := h.keep.trans ((KeepN.below hN hb1).trans (hk.mono hN'))
  have hB2 : Below base w w2 := h.below.trans ((hb1.mono hz).trans hb)
  have hH2 : Held ps.length ps s w w2 := h.held.trans ((Held.of_below h.sh hb1).trans hh fun _ _ _ e => e) fun j _ _ e => by rw [h.kp.busy j]; exact e
  refine ⟨fun e => ⟨hS2, hK2, hB2, hH2, ?_, g.ok, fx.1, ?_, h.kp.trans g.keeps⟩, fun e => ?_⟩
  · rw [h.eq]; exact chk_same hi (by rw [hc]) e
  · have := g.keeps.phi; have := h.phi; omega
  · have e2 : checkM (bringM f) s l a = ((bringM f y c).1, true) := by rw [h.eq]; exact chk_stop hi (by rw [hc]) e
    exact ⟨by rw [e2]; exact hS2, hK2, hB2, hH2, by rw [e2]⟩
theorem ChkP.end_ (h : ChkP f N w wr base sp lk ps vc rb rc s y l a i) (hi : i = l.length) : ChkE f N w wr base sp lk ps vc rb rc s l a a := by
  have e : checkM (bringM f) s l a = (y, a) := by rw [h.eq]; exact chk_end hi
  exact ⟨by rw [e]; exact h.sh, h.keep, h.below, h.held, by rw [e]⟩
theorem fits_busy {k : Nat} (ft : s.Fits) (hk : k < s.cs.length) (ho : (s.at k).open_ s.sets = true) : (s.upd k fun c => { c with busy := true }).Fits := by
  have hp := phi_busy hk ho
  refine ⟨by rw [upd_len]; exact ft.small, ft.neg, ?_, upd_num ft.num (ft.num k), fun j => ?_⟩
  · have := ft.low
    have e : (s.upd k fun c => { c with busy := true }).most = s.most := rfl
    omega
  · have h1 := ft.runs j
    by_cases hkj : k = j
    · subst hkj
      rw [upd_at_same hk]
      refine ⟨h1.1, ?_⟩
      have e : ({ s.at k with busy := true } : Cel).open_ (s.upd k fun c => { c with busy := true }).sets = false := by simp [Cel.open_]
      rw [e]
      have := h1.2
      rw [ho] at this
      simp at this ⊢
      omega
    · rw [upd_at_ne hkj]
      exact h1
/-- how a bringing ends -/
def brEnd (v : Int) (y : Sh) (k : Nat) : Sh × (Int × Int) := ((y.upd k fun c => { c with since := v }).upd k fun c => { c with busy := false }, ((y.at k).n, (y.at k).e))
theorem bring_eq {k : Nat} (h1 : ¬ ((s.at k).op = 0 ∨ ((s.at k).since = s.sets ∧ (s.at k).busy = false))) (h2 : ¬ (s.at k).busy = true) {X : Sh × Bool} (hX : checkM (bringM f) (s.upd k fun c => { c with busy := true }) (s.at k).deps (!(s.at k).ran) = X) :
    bringM (f + 1) s k = brEnd s.sets (if X.2 = true then runM (bringM f) X.1 k else X.1) k := by
  unfold bringM
  simp only
  rw [if_neg h1, if_neg h2, hX]
  generalize (if X.2 = true then runM (bringM f) X.1 k else X.1) = y
  unfold brEnd
  rw [upd_upd]
  rcases Nat.lt_or_ge k y.cs.length with hk | hk
  · rw [upd_at_same hk]
  · have e : (y.upd k fun c => { c with since := s.sets, busy := false }).at k = y.at k := by
      unfold Sh.upd Sh.at
      simp only [List.getD_eq_getElem?_getD]
      rw [List.getElem?_eq_none hk, List.getElem?_eq_none (by simpa using hk)]
    rw [e]
/-- a run may begin -/
theorem run_ready {k : Nat} (ok : s.Ok) (ft : s.Fits) (hk : k < s.cs.length) (ho : (s.at k).open_ s.sets = true) (hf : s.phi < f + 1) {X : Sh × Bool} (hX : checkM (bringM f) (s.upd k fun c => { c with busy := true }) (s.at k).deps (!(s.at k).ran) = X) :
    X.1.Ok ∧ (begM X.1 k).Fits ∧ X.1.most < 0 ∧ k < X.1.cs.length ∧ X.1.phi < f ∧ X.1.at k = { s.at k with busy := true } ∧ X.1.sets = s.sets ∧ Keeps (s.upd k fun c => { c with busy := true }) X.1 := by
  have hp := phi_busy hk ho
  have ok1 : (s.upd k fun c => { c with busy := true }).Ok := ok.upd (fun _ => ⟨rfl, rfl, rfl, rfl⟩) (fun d hd => ok.deps (s.at k) (at_mem hk) d hd) (ok.errs (s.at k) (at_mem hk))
  have ft1 := fits_busy ft hk ho
  have at1 : (s.upd k fun c => { c with busy := true }).at k = { s.at k with busy := true } := upd_at_same hk
  have m1 : (s.upd k fun c => { c with busy := true }).most = s.most := rfl
  have l1 : (s.upd k fun c => { c with busy := true }).cs.length = s.cs.length := upd_len
  have e1 : (s.upd k fun c => { c with busy := true }).sets = s.sets := rfl
  have hrk : ((s.at k).runs + 1 ≤ 4611686018427387904) ∧ 0 ≤ (s.at k).runs := by
    have := ft.runs k
    rw [ho] at this
    simp at this
    exact ⟨this.2, this.1⟩
  generalize (s.upd k fun c => { c with busy := true }) = s1 at *
  obtain ⟨c1, c2, c3, c4⟩ := check_good (bring_good f) (s.at k).deps s1 (!(s.at k).ran) ok1 (by omega) (fun d hd => by rw [l1]; exact ok.deps _ (at_mem hk) d hd)
  have c5 := check_num (bring_num f) (s.at k).deps s1 (!(s.at k).ran) ft1.num
  rw [hX] at c1 c2 c3 c4 c5
  have hat : X.1.at k = { s.at k with busy := true } := by rw [c1.held k (by rw [at1]), at1]
  have hr := keeps_runs c1 ft1.runs
  have hlow := ft.low
  have hneg := ft.neg
  refine ⟨c2, ⟨by rw [beg_len, c1.len, l1]; exact ft.small, ?_, ?_, beg_num c5, fun j => ?_⟩, by omega, by rw [c1.len, l1]; exact hk, by have := c1.phi; omega, hat, c1.sets.trans e1, c1⟩
  · show X.1.most - 1 < 0; omega
  · rw [beg_phi]; show _ ≤ X.1.most - 1 - _; omega
  · have hr0 := hr j
    by_cases hkj : k = j
    · subst hkj
      rw [beg_at (by rw [c1.len, l1]; exact hk), hat]
      refine ⟨?_, ?_⟩
      · show 0 ≤ (s.at k).runs + 1; omega
      · show (s.at k).runs + 1 + (if _ then 1 else 0) ≤ _
        rw [if_neg (by simp [Cel.open_])]; omega
    · have e : (begM X.1 k).at j = X.1.at j := upd_at_ne (s := X.1) hkj
      rw [e]; exact hr0
set_option maxRecDepth 100000 in
/-- the closure that a bringing defers: the cell is busy no more -/
theorem busy_deferred (b p : Nat) (v : Value) (u : FrameMode) (w : World) (hb : w.cell? ⟨b, 0, none⟩ = some (.pointer (some ⟨p, 0, none⟩))) (hc : w.cell? ⟨p, 9, none⟩ = some v) (hz : w.frozen? ⟨p, 9, none⟩ = false) :
    CallsD Tryd.prog 46 #[.pointer (some ⟨b, 0, none⟩)] u w fun e u' w' => u' = u ∧ (e = .returned (.tuple #[]) ∧ w' = w.setCell ⟨p, 9, none⟩ (.bool false)) := by
  go_enter_d Tryd.func46, Tryd.ntmps46
  go_wp2
  go_end0
  exact ⟨rfl, rfl⟩
theorem own_le {w : World} {base n size : Nat} {e : TypeId} {v : Value} {xs : List Value} (h : w.ownsRow base e size v n xs) : (n : Int) ≤ 9223372036854775807 := by
  rcases h.2 with ⟨_, h⟩ | ⟨g, cap, cur, _, _, _, h1, h2, _⟩
  · subst h; omega
  · unfold maxLen at h2; omega
/-- what a bringing has, when the deps are looked at -/
structure BrP (N : Nat → Prop) (H : Nat) (w wr : World) (base sp : Nat) (lk : Int) (ps : List Nat) (vc : Value) (rb rc : Nat) (s : Sh) (k p : Nat) (y : Sh) (n e : Int) : Prop where
  sh : ShAt (Nbr N H) wr base sp lk ps vc rb rc y
  keep : KeepN N w wr
  below : Below base w wr
  held : Held k ps s w wr
  box : Blk wr (H + 1) 77 #[.pointer (some ⟨p, 0, none⟩)]
  out : Blk wr H 68 #[.int .i64 n, .int .i64 e]
section
variable {H k p : Nat} {n e : Int}
theorem BrP.turn (h : BrP N H w wr base sp lk ps vc rb rc s k p y n e) (hk : k < ps.length) (hp : p = ps[k]) {j : Nat} {u : Value} {g : Cel → Cel} (he : ∀ vd vl, (celCells (y.at k) vd vl).setIfInBounds j u = celCells (g (y.at k)) vd vl)
    (hd : (g (y.at k)).deps = (y.at k).deps) (ho : (g (y.at k)).once = (y.at k).once) (hl : (g (y.at k)).looks = (y.at k).looks) (hr : (g (y.at k)).runs = (y.at k).runs) (hs : ∀ j, j ≠ k → (s.at j).busy = true → (y.at j).busy = true) :
    BrP N H w (wr.setCell ⟨p, j, none⟩ u) base sp lk ps vc rb rc s k p (y.upd k g) n e := by
  subst hp
  obtain ⟨vd, vl, hv⟩ := h.sh.each k hk
  exact ⟨h.sh.set hk he hd ho hl hr, h.keep.trans (KeepN.setCell (p := ⟨ps[k], j, none⟩) (fun hn => hv.np (.inl hn)) _), h.below.setCell (p := ⟨ps[k], j, none⟩) hv.base_ _, h.held.trans (Held.of_oth h.sh hk (Oth1.set _ _ _)) fun j _ => hs j,
    h.box.far (p := ⟨ps[k], j, none⟩) (blk_ne h.box hv.blk (by decide)) _, h.out.far (p := ⟨ps[k], j, none⟩) (blk_ne h.out hv.blk (by decide)) _⟩
theorem BrP.drew (h : BrP N H w wr base sp lk ps vc rb rc s k p y n e) : BrP N H w wr.drew base sp lk ps vc rb rc s k p y n e := ⟨h.sh.drew, h.keep, h.below.drew, h.held, h.box, h.out⟩
theorem BrP.res (h : BrP N H w wr base sp lk ps vc rb rc s k p y n e) (hN : ∀ j, N j → j < H) (hH : base ≤ H) (hs : ∀ j, j ≠ k → (s.at j).busy = true → (y.at j).busy = true) (n' e' : Int) :
    BrP N H w ((wr.setCell ⟨H, 0, none⟩ (.int .i64 n')).setCell ⟨H, 1, none⟩ (.int .i64 e')) base sp lk ps vc rb rc s k p y n' e' := by
  have hnN : ¬ N H := fun hn => by have := hN H hn; omega
  have hk : ∀ j, j ≠ H → ((wr.setCell ⟨H, 0, none⟩ (.int .i64 n')).setCell ⟨H, 1, none⟩ (.int .i64 e')).heap[j]? = wr.heap[j]? := fun j hj =>
    (Below.heap_setCell _ ⟨H, 1, none⟩ _ j hj).trans (Below.heap_setCell _ ⟨H, 0, none⟩ _ j hj)
  refine ⟨h.sh.other (fun j _ hj => hk j fun e => hj (.inr (.inl e))) fun j => .inl, h.keep.trans fun j hj => hk j fun e => hnN (e ▸ hj), (h.below.setCell (p := ⟨H, 0, none⟩) hH _).setCell (p := ⟨H, 1, none⟩) hH _,
    h.held.trans (Held.of_clear h.sh fun j _ hj => hk j fun e => hj (.inr (.inl e))) fun j _ => hs j, (hk _ (by omega)).trans h.box, (h.out.set_ 0 (.int .i64 n')).set_ 1 (.int .i64 e')⟩
/-- what a bringing leaves -/
theorem bring_fin {w0 w' : World} (hk : k < ps.length) (h : BrP N H w wr base sp lk ps vc rb rc s k ps[k] y n e) (hK : KeepN N w0 w) (hB : Below base w0 w) {s0 : Sh} (hH : Held ps.length ps s0 w0 w) (hb0 : (s0.at k).busy = false)
    (hs0 : ∀ j, j ≠ k → (s0.at j).busy = true → (s.at j).busy = true) (hs : ∀ j, j ≠ k → (s.at j).busy = true → (y.at j).busy = true) (hw : w' = wr.setCell ⟨ps[k], 9, none⟩ (.bool false)) :
    Blk w' H 68 #[.int .i64 n, .int .i64 e] ∧ ShAt N w' base sp lk ps vc rb rc (y.upd k fun c => { c with busy := false }) ∧ KeepN N w0 w' ∧ Below base w0 w' ∧ Held ps.length ps s0 w0 w' := by
  subst hw
  have h2 := h.turn hk rfl (j := 9) (u := .bool false) (g := fun c => { c with busy := false }) (fun _ _ => rfl) rfl rfl rfl rfl hs
  refine ⟨h2.out, h2.sh.other (fun _ _ _ => rfl) fun j hj => .inl (.inl hj), hK.trans h2.keep, hB.trans h2.below, ?_⟩
  have h3 : Held k ps s0 w0 w := fun j hj _ => hH j hj (by omega)
  exact (h3.trans h2.held fun j _ => hs0 j).all hb0 _
end
end

set_option maxHeartbeats 4000000 in
set_option maxRecDepth 100000 in
/-- a cell that must be brought up to date -/
theorem bring_hard {f : Nat} (hbo : BrOk f) (N : Nat → Prop) (w : World) (base sp : Nat) (lk : Int) (ps : List Nat) (vc : Value) (rb rc : Nat) (s : Sh) (k : Nat) (hS : ShAt N w base sp lk ps vc rb rc s) (hN : ∀ j, N j → j < w.heap.size) (hz : base ≤ w.heap.size) (ok : s.Ok) (ft : s.Fits) (hk : k < s.cs.length) (hf : s.phi < f + 1)
    (ho : (s.at k).op ≠ 0) (h1 : (s.at k).since ≠ s.sets) (hb : (s.at k).busy = false) :
    Calls Tryd.prog 34 #[.pointer (some ⟨sp, 0, none⟩), .int .i64 k] w fun e w' =>
      e = .returned (.agg #[.int .i64 (bringM (f + 1) s k).2.1, .int .i64 (bringM (f + 1) s k).2.2]) ∧ ShAt N w' base sp lk ps vc rb rc (bringM (f + 1) s k).1 ∧ KeepN N w w' ∧ Below base w w' ∧ Held ps.length ps s w w' := by
  have hlen := hS.len
  have hkp : k < ps.length := by omega
  have hpsm : ps.length ≤ 1048576 := by have := ft.small; omega
  obtain ⟨gc, gcap, rfl, hgc, _⟩ := hS.cells.form (by omega)
  obtain ⟨vd, vl, hv⟩ := hS.each k hkp
  have m2 := hS.sheet.cell 2
  have m4 := hS.sheet.cell 4
  have cg : w.cell? ⟨gc, k, none⟩ = some (.pointer (some ⟨ps[k], 0, none⟩)) := own_cell hS.cells k _ (by rw [List.getElem?_map, List.getElem?_eq_getElem hkp]; rfl)
  have c0 := hv.blk.cell 0
  have c5 := hv.blk.cell 5
  have c6 := hv.blk.cell 6
  have c8 := hv.blk.cell 8
  have c9 := hv.blk.cell 9
  simp [celCells] at m2 m4 c0 c5 c6 c8 c9
  have A : ∀ {a : Addr} {v : Value}, w.cell? a = some v → (w.alloc (.cells #[.int .i64 0, .int .i64 0] 68)).cell? a = some v := fun {a} {v} h => (World.cell?_alloc_old w _ a (World.new_ne w a h).symm).trans h
  replace m2 := A m2
  replace m4 := A m4
  replace cg := A cg
  replace c0 := A c0
  replace c5 := A c5
  replace c6 := A c6
  replace c8 := A c8
  replace c9 := A c9
  clear A
  have i1 : (0 : Int) ≤ (k : Int) := by omega
  have i2 : (k : Int) < (ps.length : Int) := by omega
  have Hlen := Lib.hid hlen
  clear hlen
  go_enter_defers Tryd.func34, Tryd.ntmps34
  go_upto_region 2 with fail
  obtain ⟨w2, hw2⟩ : ∃ w2, w2 = (w.alloc (.cells #[.int .i64 0, .int .i64 0] 68)).alloc (.cells #[.pointer (some ⟨ps[k], 0, none⟩)] 77) := ⟨_, rfl⟩
  have hb2 : Below w.heap.size w w2 := by rw [hw2]; exact ((Below.refl _ _).alloc (Nat.le_refl _) _).alloc (by simp) _
  have hbr : Blk w2 w.heap.size 68 #[.int .i64 0, .int .i64 0] := by rw [hw2]; exact (Blk.new _ _ _).alloc _
  have hbc : Blk w2 (w.heap.size + 1) 77 #[.pointer (some ⟨ps[k], 0, none⟩)] := by rw [hw2]; exact blk_new1 _ _ _ _
  rw [← hw2]
  clear hw2 m2 m4 cg c0 c5 c6 c8 c9
  have hS2 := hS.below hb2
  obtain ⟨vd, vl, hv⟩ := hS2.each k hkp
  obtain ⟨Ad, cd, hvd⟩ := own_form hv.deps
  subst hvd
  have m4 := hS2.sheet.cell 4
  have c0 := hv.blk.cell 0
  have c5 := hv.blk.cell 5
  have c6 := hv.blk.cell 6
  have c8 := hv.blk.cell 8
  have c9 := hv.blk.cell 9
  have cc := hbc.cell 0
  have c4 := hv.blk.cell 4
  have c7 := hv.blk.cell 7
  have f9 := hv.blk.frozen 9
  have hnc : ps[k] ≠ w.heap.size + 1 := blk_ne hv.blk hbc (by decide)
  have hnr : ps[k] ≠ w.heap.size := blk_ne hv.blk hbr (by decide)
  have r0 := hbr.cell 0
  have r1 := hbr.cell 1
  have fr0 := hbr.frozen 0
  have fr1 := hbr.frozen 1
  simp [celCells] at m4 c0 c4 c7 c8 c9 cc r0 r1
  have e0 : ((s.at k).op == 0) = false := by simpa using ho
  have e1 : ((s.at k).since == s.sets) = false := by simpa using h1
  have Ho := Lib.hid ho
  have H1 := Lib.hid h1
  have Hb := Lib.hid hb
  rw [hb] at c9
  clear ho h1 hb
  go_quiet (fail)
  go_upto_block 1 with fail
  obtain ⟨H, hH⟩ : ∃ H, H = w.heap.size := ⟨_, rfl⟩
  have HN : Hid (∀ j, N j → j < H) := by rw [hH]; exact hN
  have hS2' : ShAt (Nbr N H) (w2.drewN nq) base sp lk ps (.slice (some ⟨gc, 0, none⟩) ps.length gcap) rb rc s := (hS.other (N' := Nbr N H) (w' := w2) (fun j hj _ => hb2.block j hj) (fun j hj => by
    rcases hj with h | h | h
    · exact .inl h
    · exact .inr (by omega)
    · exact .inr (by omega))).drewN nq
  have hp9 : ps[k] < w2.heap.size := hv.blk.lt
  have hS3 : ShAt (Nbr N H) ((w2.drewN nq).setCell ⟨ps[k], 9, none⟩ (.bool true)) base sp lk ps (.slice (some ⟨gc, 0, none⟩) ps.length gcap) rb rc (s.upd k fun c => { c with busy := true }) :=
    hS2'.set hkp (f := fun c => { c with busy := true }) (fun _ _ => rfl) rfl rfl rfl rfl
  have hbr3 : Blk ((w2.drewN nq).setCell ⟨ps[k], 9, none⟩ (.bool true)) H 68 #[.int .i64 0, .int .i64 0] := by rw [hH]; exact Blk.far (p := ⟨ps[k], 9, none⟩) (w := w2.drewN nq) hbr (Ne.symm hnr) _
  have hbc3 : Blk ((w2.drewN nq).setCell ⟨ps[k], 9, none⟩ (.bool true)) (H + 1) 77 #[.pointer (some ⟨ps[k], 0, none⟩)] := by rw [hH]; exact Blk.far (p := ⟨ps[k], 9, none⟩) (w := w2.drewN nq) hbc (Ne.symm hnc) _
  have hopn : (s.at k).open_ s.sets = true := open_of (fun h => by rcases h with h | h; exact Ho.out h; exact H1.out h.1) (by rw [Hb.out]; simp)
  have hphi := phi_busy hk hopn
  have hft1 := fits_busy ft hk hopn
  have hok1 : (s.upd k fun c => { c with busy := true }).Ok := ok.upd (fun _ => ⟨rfl, rfl, rfl, rfl⟩) (fun d hd => ok.deps (s.at k) (at_mem hk) d hd) (ok.errs (s.at k) (at_mem hk))
  have hbW3 : Below base w ((w2.drewN nq).setCell ⟨ps[k], 9, none⟩ (.bool true)) := (below_drewN (hb2.mono hz) nq).setCell (p := ⟨ps[k], 9, none⟩) hv.base_ _
  have HK3 : Hid (KeepN N w ((w2.drewN nq).setCell ⟨ps[k], 9, none⟩ (.bool true))) := (show KeepN N w (w2.drewN nq) from KeepN.below hN (below_drewN hb2 nq)).trans (KeepN.setCell (p := ⟨ps[k], 9, none⟩) hv.np _)
  have HH3 : Hid (Held ps.length ps s w ((w2.drewN nq).setCell ⟨ps[k], 9, none⟩ (.bool true))) :=
    ((show Held k ps s w (w2.drewN nq) from Held.of_below hS (below_drewN hb2 nq)).trans (Held.of_oth (hS2.drewN nq) hkp (Oth1.set _ 9 _)) fun _ _ _ e => e).all Hb.out _
  have hd3 : ((w2.drewN nq).setCell ⟨ps[k], 9, none⟩ (.bool true)).ownsRow base 115 3 (.slice Ad (s.at k).deps.length cd) (s.at k).deps.length (depCells (s.at k).deps) :=
    own_of_block (w := w2.drewN nq) hv.deps fun b hb => Below.heap_setCell _ _ _ _ fun e => own_ne hv.deps hv.blk (by decide) (by rw [hb, e])
  have c73 : ((w2.drewN nq).setCell ⟨ps[k], 9, none⟩ (.bool true)).cell? ⟨ps[k], 7, none⟩ = some (.slice Ad (s.at k).deps.length cd) := (World.cell?_setCell_other _ ⟨ps[k], 9, none⟩ ⟨ps[k], 7, none⟩ _ (by simp)).trans c7
  have hs3 : H + 1 < ((w2.drewN nq).setCell ⟨ps[k], 9, none⟩ (.bool true)).heap.size := hbc3.lt
  have hpk : base ≤ ps[k] := hv.base_
  have hdl := own_le hd3
  rw [← hH]
  clear hS hN hS2 hv c0 c4 c5 c6 c7 c8 c9 cc m4 r0 r1 fr0 fr1 f9 hbr hbc hnc hnr hp9 hb2 hS2'
  generalize (w2.drewN nq).setCell ⟨ps[k], 9, none⟩ (.bool true) = w3 at *
  have hat1 : (s.upd k fun c => { c with busy := true }).at k = { s.at k with busy := true } := upd_at_same hk
  have hl1 : ∀ d ∈ (s.at k).deps, d.c < (s.upd k fun c => { c with busy := true }).cs.length := fun d hd => by rw [upd_len]; exact ok.deps _ (at_mem hk) d hd
  have hs1 : ∃ s1, s1 = (s.upd k fun c => { c with busy := true }) := ⟨_, rfl⟩
  obtain ⟨s1, hs1⟩ := hs1
  rw [← hs1] at hat1 hl1 hS3 hok1 hft1 hphi
  have HP0 : Hid (ChkP f (Nbr N H) w3 w3 base sp lk ps (.slice (some ⟨gc, 0, none⟩) ps.length gcap) rb rc s1 s1 (s.at k).deps (!(s.at k).ran) 0) :=
    ⟨hS3, fun _ _ => rfl, Below.refl _ _, Held.refl, rfl, hok1, hft1, by omega, Keeps.refl _⟩
  have hzH : base ≤ H := by omega
  have HhH := Lib.hid hH
  clear hH
  have HR : Hid (∀ X, checkM (bringM f) s1 (s.at k).deps (!(s.at k).ran) = X → X.1.Ok ∧ (begM X.1 k).Fits ∧ X.1.most < 0 ∧ k < X.1.cs.length ∧ X.1.phi < f ∧ X.1.at k = { s.at k with busy := true } ∧ X.1.sets = s.sets ∧ Keeps s1 X.1) := fun X hX => by
    rw [hs1] at hX ⊢
    exact run_ready ok ft hk hopn hf hX
  have HM : Hid (∀ X, checkM (bringM f) s1 (s.at k).deps (!(s.at k).ran) = X → bringM (f + 1) s k = brEnd s.sets (if X.2 = true then runM (bringM f) X.1 k else X.1) k) := fun X hX => by
    rw [hs1] at hX
    exact bring_eq (fun h => by rcases h with h | h; exact Ho.out h; exact H1.out h.1) (by rw [Hb.out]; simp) hX
  have Hs1 := Lib.hid hs1
  have Hat1 := Lib.hid hat1
  have Hl1 := Lib.hid hl1
  have Hd3 := Lib.hid hd3
  have C73 := Lib.hid c73
  have NH : Hid (∀ j, Nbr N H j → j < w3.heap.size) := fun j hj => by
    rcases hj with h | h | h
    · have := HN.out j h; omega
    · omega
    · omega
  clear hs1 hat1 hl1 hd3 c73 hS3

  go_cut [6] from 6 to 76 (fun s6 wc => ∃ b : Bool, s6 = .bool b ∧ Hid (ChkE f (Nbr N H) w3 wc base sp lk ps (.slice (some ⟨gc, 0, none⟩) ps.length gcap) rb rc s1 (s.at k).deps (!(s.at k).ran) b))
  case first =>
    go_wp2_with fail
    go_loopw [6, 65] (fun s6 i wr => s6 = .bool (!(s.at k).ran) ∧ ∃ j : Nat, i = .int .i64 j ∧ j ≤ (s.at k).deps.length ∧ ∃ y, Hid (ChkP f (Nbr N H) w3 wr base sp lk ps (.slice (some ⟨gc, 0, none⟩) ps.length gcap) rb rc s1 y (s.at k).deps (!(s.at k).ran) j)) (fun _ i _ => (s.at k).deps.length - (intOf i).toNat)
    case atStart => exact ⟨rfl, 0, rfl, Nat.zero_le _, s1, HP0⟩
    case round =>
      obtain ⟨rfl, j, rfl, hj, y, HP⟩ := hrel
      by_cases hlt : j < (s.at k).deps.length
      · have hP := HP.out
        have hdw : wr.ownsRow base 115 3 (.slice Ad (s.at k).deps.length cd) (s.at k).deps.length (depCells (s.at k).deps) :=
          own_of_block Hd3.out fun b hb => hP.held k hkp (by omega) (by rw [Hat1.out]) b (.inr ⟨_, C73.out, hb⟩)
        obtain ⟨gd, cd', hvd, _, _⟩ := World.ownsRow.form hdw (by omega)
        obtain rfl : Ad = some ⟨gd, 0, none⟩ := by injection hvd
        clear hvd
        have d0 := own_cell hdw (j * 3 + 0) _ (depCells_get _ j 0 (by omega) hlt)
        have d1 := own_cell hdw (j * 3 + 1) _ (depCells_get _ j 1 (by omega) hlt)
        have d2 := own_cell hdw (j * 3 + 2) _ (depCells_get _ j 2 (by omega) hlt)
        simp only [Nat.add_zero] at d0
        have i1 : (0 : Int) ≤ (j : Int) := by omega
        have i2 : (j : Int) < ((s.at k).deps.length : Int) := by omega
        have i3 : decide (j < (s.at k).deps.length) = true := by simpa using hlt
        clear hP hdw
        obtain ⟨dj, hdj⟩ : ∃ dj, dj = (s.at k).deps[j] := ⟨_, rfl⟩
        rw [← hdj] at d0 d1 d2
        have Hdj := Lib.hid hdj
        clear hdj
        obtain ⟨dc, dn, de⟩ := dj
        simp at d0 d1 d2
        have hmem : (s.at k).deps[j] ∈ (s.at k).deps := List.getElem_mem hlt
        have hdc : dc < y.cs.length := by
          have := Hl1.out _ hmem
          rw [← Hdj.out] at this
          rw [HP.out.kp.len]; exact this
        go_upto_region 12 with fail
        obtain ⟨g, hg⟩ : ∃ g, g = wr.heap.size := ⟨_, rfl⟩
        have hzr : base ≤ wr.heap.size := Nat.le_trans (by omega) HP.out.below.size
        have hNr : ∀ j, Nbr N H j → j < wr.heap.size := fun j hj => Nat.lt_of_lt_of_le (NH.out j hj) HP.out.below.size
        have hS5 : ShAt (fun j => Nbr N H j ∨ j = g) (wr.alloc (.cells #[.int .i64 (dc : Int), .int .i64 dn, .int .i64 de] 115)) base sp lk ps (.slice (some ⟨gc, 0, none⟩) ps.length gcap) rb rc y :=
          HP.out.sh.other (fun j hj _ => Below.heap_alloc wr _ j hj) fun j hj => hj.imp id fun e => by omega
        have hB5 : Blk (wr.alloc (.cells #[.int .i64 (dc : Int), .int .i64 dn, .int .i64 de] 115)) g 115 #[.int .i64 (dc : Int), .int .i64 dn, .int .i64 de] := by rw [hg]; exact Blk.new _ _ _
        have hb5 : Below wr.heap.size wr (wr.alloc (.cells #[.int .i64 (dc : Int), .int .i64 dn, .int .i64 de] 115)) := (Below.refl _ _).alloc (Nat.le_refl _) _
        rw [← hg]
        have Hg := Lib.hid hg
        clear hg
        obtain ⟨w5, hw5⟩ : ∃ w5, w5 = wr.alloc (.cells #[.int .i64 (dc : Int), .int .i64 dn, .int .i64 de] 115) := ⟨_, rfl⟩
        rw [← hw5] at hS5 hB5 hb5 ⊢
        clear hw5
        obtain ⟨x, hx⟩ : ∃ x, bringM f y dc = x := ⟨_, rfl⟩
        have HC : Hid (Calls Tryd.prog 34 #[.pointer (some ⟨sp, 0, none⟩), .int .i64 dc] w5.drew fun e w' => e = .returned (.agg #[.int .i64 x.2.1, .int .i64 x.2.2]) ∧ ShAt (fun j => Nbr N H j ∨ j = g) w' base sp lk ps (.slice (some ⟨gc, 0, none⟩) ps.length gcap) rb rc x.1 ∧ KeepN (fun j => Nbr N H j ∨ j = g) w5 w' ∧ Below base w5 w' ∧ Held ps.length ps y w5 w') := by
          refine (show Calls _ _ _ w5.drew _ from hbo (fun j => Nbr N H j ∨ j = g) w5.drew base sp lk ps _ rb rc y dc hS5.drew (fun j hj => ?_) (Nat.le_trans hzr hb5.size) HP.out.ok HP.out.ft hdc HP.out.phi).mono ?_
          · rcases hj with hj | hj
            · exact Nat.lt_of_lt_of_le (hNr j hj) hb5.size
            · rw [hj]; exact hB5.lt
          · rintro e w' ⟨rfl, h1, h2, h3, h4⟩
            rw [hx] at h1 ⊢
            exact ⟨rfl, h1, h2, (Below.refl _ _).drew.trans h3, h4⟩
        have HX : Hid (∀ w6, ShAt (fun j => Nbr N H j ∨ j = g) w6 base sp lk ps (.slice (some ⟨gc, 0, none⟩) ps.length gcap) rb rc x.1 → KeepN (fun j => Nbr N H j ∨ j = g) w5 w6 → Below base w5 w6 → Held ps.length ps y w5 w6 →
            (x.2.1 = dn ∧ x.2.2 = de → ChkP f (Nbr N H) w3 w6 base sp lk ps (.slice (some ⟨gc, 0, none⟩) ps.length gcap) rb rc s1 x.1 (s.at k).deps (!(s.at k).ran) (j + 1)) ∧
            (¬ (x.2.1 = dn ∧ x.2.2 = de) → ChkE f (Nbr N H) w3 w6 base sp lk ps (.slice (some ⟨gc, 0, none⟩) ps.length gcap) rb rc s1 (s.at k).deps (!(s.at k).ran) true)) := fun w6 h1 h2 h3 h4 => by
          have h := HP.out.next (w1 := w5) (w2 := w6) (N' := fun j => Nbr N H j ∨ j = g) hNr (fun _ h => .inl h) hb5 hzr hlt (c := dc) (by rw [← Hdj.out]) hdc (by rw [hx]; exact h1) h2 h3 h4
          rw [← Hdj.out, hx] at h
          exact h
        have b0 := hB5.cell 0
        have b1 := hB5.cell 1
        have b2 := hB5.cell 2
        simp at b0 b1 b2
        have HB5 := Lib.hid hB5
        clear hx hS5 hB5 hb5 hNr hzr hdc hmem d0 d1 d2
        have hways : (x.2.1 = dn ∧ x.2.2 = de) ∨ x.2.1 ≠ dn ∨ (x.2.1 = dn ∧ x.2.2 ≠ de) := by
          by_cases e1 : x.2.1 = dn
          · by_cases e2 : x.2.2 = de
            · exact .inl ⟨e1, e2⟩
            · exact .inr (.inr ⟨e1, e2⟩)
          · exact .inr (.inl e1)
        rcases hways with ⟨e1, e2⟩ | e1 | ⟨e1, e2⟩
        · have HE := Lib.hid (And.intro e1 e2)
          rw [e1, e2] at HC
          clear e1 e2
          go_region_held3 (fun w' => w'.cell? ⟨g, 0, none⟩ = some (.int .i64 (dc : Int)) ∧ w'.cell? ⟨g, 1, none⟩ = some (.int .i64 dn) ∧ w'.cell? ⟨g, 2, none⟩ = some (.int .i64 de)) (first | (go_keep; done) | exact ⟨p0, p1, p2⟩)
            ((go_at_call 34; refine HC.out.mono ?_; rintro e w6 ⟨rfl, h1, h2, h3, h4⟩; have HY := Lib.hid (HX.out w6 h1 h2 h3 h4); have B6 : Blk w6 g 115 #[.int .i64 (dc : Int), .int .i64 dn, .int .i64 de] := (h2 g (.inr rfl)).trans HB5.out; have p0 := B6.cell 0; have p1 := B6.cell 1; have p2 := B6.cell 2; simp at p0 p1 p2; clear h1 h2 h3 h4 HC HX))
          go_wp2_with fail
          go_roundw
          case rel => exact ⟨rfl, j + 1, by go_num, by omega, _, HY.out.1 HE.out⟩
          case measure => simp [intOf]; omega
        · have HE : Hid (¬ (x.2.1 = dn ∧ x.2.2 = de)) := fun h => e1 h.1
          have q1 : (x.2.1 == dn) = false := by simpa using e1
          clear e1
          go_region_held3 (fun w' => w'.cell? ⟨g, 0, none⟩ = some (.int .i64 (dc : Int)) ∧ w'.cell? ⟨g, 1, none⟩ = some (.int .i64 dn) ∧ w'.cell? ⟨g, 2, none⟩ = some (.int .i64 de)) (first | (go_keep; done) | exact ⟨p0, p1, p2⟩)
            ((go_at_call 34; refine HC.out.mono ?_; rintro e w6 ⟨rfl, h1, h2, h3, h4⟩; have HY := Lib.hid (HX.out w6 h1 h2 h3 h4); have B6 : Blk w6 g 115 #[.int .i64 (dc : Int), .int .i64 dn, .int .i64 de] := (h2 g (.inr rfl)).trans HB5.out; have p0 := B6.cell 0; have p1 := B6.cell 1; have p2 := B6.cell 2; simp at p0 p1 p2; clear h1 h2 h3 h4 HC HX))
          go_wp2_with fail
          go_meet
          exact ⟨_, rfl, HY.out.2 HE.out⟩
        · have HE : Hid (¬ (x.2.1 = dn ∧ x.2.2 = de)) := fun h => e2 h.2
          rw [e1] at HC
          have q1 : (x.2.2 == de) = false := by simpa using e2
          clear e1 e2
          go_region_held3 (fun w' => w'.cell? ⟨g, 0, none⟩ = some (.int .i64 (dc : Int)) ∧ w'.cell? ⟨g, 1, none⟩ = some (.int .i64 dn) ∧ w'.cell? ⟨g, 2, none⟩ = some (.int .i64 de)) (first | (go_keep; done) | exact ⟨p0, p1, p2⟩)
            ((go_at_call 34; refine HC.out.mono ?_; rintro e w6 ⟨rfl, h1, h2, h3, h4⟩; have HY := Lib.hid (HX.out w6 h1 h2 h3 h4); have B6 : Blk w6 g 115 #[.int .i64 (dc : Int), .int .i64 dn, .int .i64 de] := (h2 g (.inr rfl)).trans HB5.out; have p0 := B6.cell 0; have p1 := B6.cell 1; have p2 := B6.cell 2; simp at p0 p1 p2; clear h1 h2 h3 h4 HC HX))
          go_wp2_with fail
          go_meet
          exact ⟨_, rfl, HY.out.2 HE.out⟩
      · have hd : decide (j < (s.at k).deps.length) = false := by simpa using hlt
        have hje : j = (s.at k).deps.length := by omega
        have HE := Lib.hid (HP.out.end_ hje)
        clear hje
        go_wp2_with fail
        go_meet
        exact ⟨_, rfl, HE⟩
  case rest =>
    obtain ⟨b, rfl, HE⟩ := hcut
    obtain ⟨⟨X1, X2⟩, hX⟩ : ∃ X, checkM (bringM f) s1 (s.at k).deps (!(s.at k).ran) = X := ⟨_, rfl⟩
    obtain ⟨r1, r2, r3, r4, r5, r6, r7, r8⟩ := HR.out _ hX
    dsimp only at r1 r2 r3 r4 r5 r6 r7 r8
    have hsh := HE.out.sh
    have heq := HE.out.eq
    have hm := HM.out _ hX
    rw [hX] at hsh heq
    dsimp only at hsh heq hm
    subst heq
    have hB0 : BrP N H w3 wc base sp lk ps (.slice (some ⟨gc, 0, none⟩) ps.length gcap) rb rc s1 k ps[k] X1 0 0 :=
      ⟨hsh, HE.out.keep.mono fun _ h => .inl h, HE.out.below, fun j hj _ => HE.out.held j hj (by omega), (HE.out.keep _ (.inr (.inr rfl))).trans hbc3, (HE.out.keep _ (.inr (.inl rfl))).trans hbr3⟩
    have NHc : ∀ j, Nbr N H j → j < wc.heap.size := fun j hj => Nat.lt_of_lt_of_le (NH.out j hj) HE.out.below.size
    have hzc : base ≤ wc.heap.size := Nat.le_trans (by omega) HE.out.below.size
    have HBz : Hid (∀ j, j ≠ k → (s1.at j).busy = true → (X1.at j).busy = true) := fun j _ h => by rw [r8.busy j]; exact h
    have HX6 := Lib.hid r6
    have HX7 := Lib.hid r7
    have HX4 := Lib.hid r4
    have Hm := Lib.hid hm
    clear hm HM HR HE hX r4 r6 r7 r8 hft1 hok1 hphi
    cases X2
    case' true =>
      go_wp2_with fail
      refine (run_walk hbo (N := Nbr N H) wc base sp lk ps _ rb rc X1 k hsh NHc hzc r1 r2 r3 HX4.out (by rw [HX6.out]) (by rw [HX6.out]; exact Ho.out) r5).mono ?_
      rintro e wy ⟨rfl, hy1, hy2, hy3, hy4⟩
      obtain ⟨g, _⟩ := run_good (bring_good f) r1 HX4.out (by rw [HX6.out]) (by rw [HX6.out]; exact Ho.out) r5
      have hB : BrP N H w3 wy base sp lk ps (.slice (some ⟨gc, 0, none⟩) ps.length gcap) rb rc s1 k ps[k] (runM (bringM f) X1 k) 0 0 :=
        ⟨hy1, hB0.keep.trans (hy2.mono fun _ h => .inl h), hB0.below.trans hy3, hB0.held.trans hy4 (fun j _ => HBz.out j), (hy2 _ (.inr (.inr rfl))).trans hB0.box, (hy2 _ (.inr (.inl rfl))).trans hB0.out⟩
      have HYs : Hid ((runM (bringM f) X1 k).sets = s.sets) := g.sets.trans HX7.out
      have HYk : Hid (k < (runM (bringM f) X1 k).cs.length) := by have := g.len; have := HX4.out; show _ < _; omega
      have HYb : Hid (∀ j, j ≠ k → (s1.at j).busy = true → ((runM (bringM f) X1 k).at j).busy = true) := fun j hj h => by rw [g.busy j hj]; exact HBz.out j hj h
      have HmY : Hid (bringM (f + 1) s k = brEnd s.sets (runM (bringM f) X1 k) k) := Hm.out
      clear hy1 hy2 hy3 hy4 g hB0 hsh NHc hzc r1 r2 r3 r5 HX4 HX6 HX7 HBz Hm
      generalize runM (bringM f) X1 k = Y at hB HYs HYk HYb HmY
    case' false =>
      have hB := hB0
      have HYs := HX7
      have HYk := HX4
      have HYb := HBz
      have HmY : Hid (bringM (f + 1) s k = brEnd s.sets X1 k) := Hm.out
      clear hB0 hsh NHc hzc r1 r2 r3 r5 HX4 HX6 HX7 HBz Hm
      generalize X1 = Y at hB HYs HYk HYb HmY
      obtain ⟨wy, hwy⟩ : ∃ wy, wy = wc := ⟨_, rfl⟩
      subst hwy
    all_goals
      have cbc := hB.box.cell 0
      have m4 := hB.sh.sheet.cell 4
      obtain ⟨vdy, vly, hvy⟩ := hB.sh.each k hkp
      have c8 := hvy.blk.cell 8
      have f8 := hvy.blk.frozen 8
      have hn1 : ps[k] ≠ H + 1 := blk_ne hvy.blk hB.box (by decide)
      have hn2 : ps[k] ≠ sp := blk_ne hvy.blk hB.sh.sheet (by decide)
      simp [celCells] at cbc m4 c8
      rw [HYs.out] at m4
      go_upto_region 17 with fail
      go_region_held3 (fun w' => w'.cell? ⟨H + 1, 0, none⟩ = some (.pointer (some ⟨ps[k], 0, none⟩)) ∧ w'.cell? ⟨sp, 4, none⟩ = some (.int .i64 s.sets)) (first | (go_keep; done)) (fail)
      have hB2 := hB.turn hkp rfl (j := 8) (u := .int .i64 s.sets) (g := fun c => { c with since := s.sets }) (fun _ _ => rfl) rfl rfl rfl rfl HYb.out
      have hB3 := hB2.drew
      have HZb : Hid (∀ j, j ≠ k → (s1.at j).busy = true → ((Y.upd k fun c => { c with since := s.sets }).at j).busy = true) := fun j hj h => by rw [upd_at_ne (Ne.symm hj)]; exact HYb.out j hj h
      have HZk : Hid ((Y.upd k fun c => { c with since := s.sets }).at k = { Y.at k with since := s.sets }) := upd_at_same HYk.out
      clear hB hB2 cbc m4 c8 f8 hvy
      generalize ((wy.setCell ⟨ps[k], 8, none⟩ (.int .i64 s.sets)).drew) = wz at hB3 ⊢
      obtain ⟨Z, hZ⟩ : ∃ Z, Z = (Y.upd k fun c => { c with since := s.sets }) := ⟨_, rfl⟩
      rw [← hZ] at hB3 HZb HZk
      have HZ := Lib.hid hZ
      clear hZ
      obtain ⟨vdz, vlz, hvz⟩ := hB3.sh.each k hkp
      rw [HZk.out] at hvz
      have c5 := hvz.blk.cell 5
      have c6 := hvz.blk.cell 6
      have cbc := hB3.box.cell 0
      have r0 := hB3.out.cell 0
      have r1 := hB3.out.cell 1
      have fr0 := hB3.out.frozen 0
      have fr1 := hB3.out.frozen 1
      simp [celCells] at c5 c6 cbc r0 r1
      go_wp2_with fail
      have hB4 := hB3.res HN.out hzH HZb.out (Y.at k).n (Y.at k).e
      obtain ⟨vde, vle, hve⟩ := hB4.sh.each k hkp
      have HX := Lib.hid fun wF => bring_fin (w' := wF) hkp hB4 HK3.out hbW3 HH3.out Hb.out (fun j hj h => by rw [Hs1.out, upd_at_ne (Ne.symm hj)]; exact h) HZb.out
      have cb4 := hB4.box.cell 0
      have c9 := hve.blk.cell 9
      have f9 := hve.blk.frozen 9
      simp [celCells] at cb4 c9
      clear hB3 hvz c5 c6 cbc r0 r1 fr0 fr1 hve
      generalize ((wz.setCell ⟨H, 0, none⟩ (.int .i64 (Y.at k).n)).setCell ⟨H, 1, none⟩ (.int .i64 (Y.at k).e)) = wv at *
      refine leaves_cons (f := 46) (args := #[.pointer (some ⟨H + 1, 0, none⟩)]) (by simp) (by simp [go_sem]) ?_
      refine (busy_deferred (H + 1) ps[k] _ .returning _ cb4 c9 f9).mono ?_
      rintro e u' w'' ⟨rfl, rfl, rfl⟩
      obtain ⟨x1, x2, x3, x4, x5⟩ := HX.out _ rfl
      have hm := HmY.out
      unfold brEnd at hm
      rw [← HZ.out] at hm
      rw [hm]
      exact ⟨_, bring_out (by rfl) x1, rfl, x2, x3, x4, x5⟩
theorem br_ok : ∀ f, BrOk f := by
  intro f
  induction f with
  | zero => intro _ _ _ _ _ _ _ _ _ _ _ _ _ _ _ _ _ h; omega
  | succ f ih =>
    intro N w base sp lk ps vc rb rc s k hS hN hz ok ft hk hf
    by_cases ho : (s.at k).op = 0
    · exact (bring_easy N w base sp lk ps vc rb rc s k hS hN hz ft.small hk (.inl ho)).mono fun _ _ ⟨a, b, c, d, e, _⟩ => ⟨a, b, c, d, e⟩
    · by_cases hb : (s.at k).busy = true
      · exact (bring_easy N w base sp lk ps vc rb rc s k hS hN hz ft.small hk (.inr (.inr hb))).mono fun _ _ ⟨a, b, c, d, e, _⟩ => ⟨a, b, c, d, e⟩
      · have hb' : (s.at k).busy = false := by simpa using hb
        by_cases h1 : (s.at k).since = s.sets
        · exact (bring_easy N w base sp lk ps vc rb rc s k hS hN hz ft.small hk (.inr (.inl ⟨h1, hb'⟩))).mono fun _ _ ⟨a, b, c, d, e, _⟩ => ⟨a, b, c, d, e⟩
        · exact bring_hard ih N w base sp lk ps vc rb rc s k hS hN hz ok ft hk hf ho h1 hb'
end Go.Proofs.YtnadldoebfmgmaaDoor.q
