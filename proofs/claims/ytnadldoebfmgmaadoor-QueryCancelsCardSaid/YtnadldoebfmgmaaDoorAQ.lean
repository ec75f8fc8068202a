/-
  THE WALK of (*query.Sheet).bring, broken off or not. (Printed by wip/mkbringA.py.)
-/
import Derived.Test.YtnadldoebfmgmaaDoorAR
import Derived.Deep.RegionWith
namespace Go.Proofs.YtnadldoebfmgmaaDoor.q
open Go.RowKit

theorem outcome_neq (n e dn de : Int) : ∃ q : Bool, (∀ w', Sem.run Tryd.prog (eqGuard BinOp.neq 68 (Operand.tmp 72) (Operand.tmp 74) (.agg #[.int .i64 n, .int .i64 e]) (.agg #[.int .i64 dn, .int .i64 de])) w' = .ok () w') ∧
    (∀ w', Sem.run Tryd.prog (binOp BinOp.neq 68 (.agg #[.int .i64 n, .int .i64 e]) (.agg #[.int .i64 dn, .int .i64 de])) w' = .ok (.bool q) w') := by
  by_cases h1 : n = dn
  · by_cases h2 : e = de
    · refine ⟨false, fun w' => ?_, fun w' => ?_⟩
      · subst h1 h2; go_simp
      · subst h1 h2; go_simp
    · have q1 : (e == de) = false := by simpa using h2
      refine ⟨true, fun w' => ?_, fun w' => ?_⟩
      · subst h1; go_simp
      · subst h1; go_simp
  · have q1 : (n == dn) = false := by simpa using h1
    refine ⟨true, fun w' => ?_, fun w' => ?_⟩
    · go_simp
    · go_simp
/-- a post whose panic hangs on no slot -/
def PPost (Q : Exit → Act → World → Prop) (a : Act) (F : World → Prop) (e : Exit) (a' : Act) (w' : World) : Prop :=
  match e with
  | .panic c => c = enoughC ∧ a'.defers = a.defers ∧ F w'
  | .normal => Q .normal a' w'
  | .outgrown => Q .outgrown a' w'
  | .exit n => Q (.exit n) a' w'
  | .goto n => Q (.goto n) a' w'
  | .ret => Q .ret a' w'
theorem PPost.panic {Q : Exit → Act → World → Prop} {a a' : Act} {F : World → Prop} {w' : World} (h : a'.defers = a.defers) (hF : F w') : PPost Q a F (.panic enoughC) a' w' := ⟨rfl, h, hF⟩
theorem PPost.normal {Q : Exit → Act → World → Prop} {a a' : Act} {F : World → Prop} {w' : World} (h : Q .normal a' w') : PPost Q a F .normal a' w' := h
theorem wp_panics {P : Program} {code : Code} {a : Act} {w : World} {Q : Exit → Act → World → Prop} (F : World → Prop) (h : code.wp P (PPost Q a F) a w) (hp : ∀ a' w', a'.defers = a.defers → F w' → Q (.panic enoughC) a' w') : code.wp P Q a w :=
  wp_mono h fun e a' w' hq => by
    cases e with
    | panic c => obtain ⟨rfl, h1, h2⟩ := hq; exact hp _ _ h1 h2
    | normal => exact hq
    | outgrown => exact hq
    | exit n => exact hq
    | goto n => exact hq
    | ret => exact hq
/-- back from what is busy: the cell k is busy no more -/
theorem RelA.back {s y : Sh} {k : Nat} {g : Cel → Cel} (h : RelA (s.upd k fun c => { c with busy := true }) y) (hk : k < s.cs.length) (hb : (s.at k).busy = false) (hg : ∀ c, g c = { c with since := (g c).since, busy := false }) : RelA s (y.upd k g) := by
  have hl : (s.upd k fun c => { c with busy := true }).cs.length = s.cs.length := upd_len
  have hky : k < y.cs.length := by rw [h.len, hl]; exact hk
  have at1 : (s.upd k fun c => { c with busy := true }).at k = { s.at k with busy := true } := upd_at_same hk
  have ne1 : ∀ j, k ≠ j → (s.upd k fun c => { c with busy := true }).at j = s.at j := fun j hj => upd_at_ne hj
  have at2 : (y.upd k g).at k = { y.at k with since := (g (y.at k)).since, busy := false } := by rw [upd_at_same hky]; exact hg _
  have ne2 : ∀ j, k ≠ j → (y.upd k g).at j = y.at j := fun j hj => upd_at_ne hj
  have hgr : ∀ c, (g c).op = c.op ∧ (g c).a = c.a ∧ (g c).b = c.b ∧ (g c).c = c.c := fun c => by rw [hg c]; exact ⟨rfl, rfl, rfl, rfl⟩
  refine ⟨by rw [upd_len, h.len, hl], h.sets, fun j => ?_, fun j => ?_, fun j e => ?_, fun j e => ?_, fun ok => ?_, fun ft => ?_⟩
  · by_cases hj : k = j
    · subst hj
      have := h.rule k
      rw [at1] at this
      rw [at2]; exact this
    · have := h.rule j
      rw [ne1 j hj] at this
      rw [ne2 j hj]; exact this
  · by_cases hj : k = j
    · subst hj; rw [at2, hb]
    · rw [ne2 j hj, h.busy j, ne1 j hj]
  · by_cases hj : k = j
    · subst hj
      rw [at2]
      exact h.once k (by rw [at1]; exact e)
    · rw [ne2 j hj]; exact h.once j (by rw [ne1 j hj]; exact e)
  · by_cases hj : k = j
    · subst hj
      have := h.input k (by rw [at1]; exact e)
      rw [at1] at this
      rw [at2]; exact this
    · have := h.input j (by rw [ne1 j hj]; exact e)
      rw [ne1 j hj] at this
      rw [ne2 j hj]; exact this
  · have ok1 : (s.upd k fun c => { c with busy := true }).Ok := ok.upd (fun _ => ⟨rfl, rfl, rfl, rfl⟩) (fun d hd => ok.deps (s.at k) (at_mem hk) d hd) (ok.errs (s.at k) (at_mem hk))
    have oky := h.ok ok1
    exact oky.upd hgr (fun d hd => oky.deps (y.at k) (at_mem hky) d (by rw [hg] at hd; exact hd)) (by rw [hg]; exact oky.errs (y.at k) (at_mem hky))
  · have ft1 : (s.upd k fun c => { c with busy := true }).FitA := ⟨by rw [hl]; exact ft.small, ft.pos, upd_num ft.num (ft.num k), fun j => by
      by_cases hj : k = j
      · subst hj; rw [at1]; exact ft.runs k
      · rw [ne1 j hj]; exact ft.runs j⟩
    have fty := h.fit ft1
    refine ⟨by rw [upd_len]; exact fty.small, fty.pos, upd_num fty.num (by rw [hg]; exact fty.num k), fun j => ?_⟩
    by_cases hj : k = j
    · subst hj; rw [at2]; exact fty.runs k
    · rw [ne2 j hj]; exact fty.runs j
theorem fitA_busy {s : Sh} {k : Nat} (ft : s.FitA) (hk : k < s.cs.length) : (s.upd k fun c => { c with busy := true }).FitA :=
  ⟨by rw [upd_len]; exact ft.small, ft.pos, upd_num ft.num (ft.num k), fun j => by
    by_cases hj : k = j
    · subst hj; rw [upd_at_same hk]; exact ft.runs k
    · rw [upd_at_ne hj]; exact ft.runs j⟩
/-- run, broken off or not -/
theorem run_anyA {f : Nat} (hbr : BrA f) {N : Nat → Prop} (w : World) (base sp : Nat) (lk : Int) (ps : List Nat) (vc : Value) (rb rc : Nat) (s : Sh) (k : Nat) (hS : ShAt N w base sp lk ps vc rb rc s) (hN : ∀ j, N j → j < w.heap.size) (hz : base ≤ w.heap.size)
    (ok : s.Ok) (hfit : s.FitA) (hk : k < s.cs.length) (hop : (s.at k).op ≠ 0) (hf : s.nb < f) :
    Calls Tryd.prog 47 #[.pointer (some ⟨sp, 0, none⟩), .int .i64 k] w fun e w' => (e = .returned (.tuple #[]) ∨ e = .panicked enoughC) ∧ AftA N w.heap.size w w' base sp lk ps vc rb rc s := by
  have hp := hfit.pos
  by_cases hm : s.most = 0
  · exact (run_none w base sp lk ps vc rb rc s k hS hN hz hm).mono fun _ _ ⟨a, b⟩ => ⟨.inr a, b⟩
  · exact run_someA hbr w base sp lk ps vc rb rc s k hS hN hz ok hfit (by omega) hk hop hf
/-- what needs no bringing -/
theorem bring_easyA (N : Nat → Prop) (w : World) (base sp : Nat) (lk : Int) (ps : List Nat) (vc : Value) (rb rc : Nat) (s : Sh) (k : Nat) (hS : ShAt N w base sp lk ps vc rb rc s) (hN : ∀ j, N j → j < w.heap.size) (hz : base ≤ w.heap.size) (ok : s.Ok) (ft : s.FitA) (hk : k < s.cs.length)
    (he : (s.at k).op = 0 ∨ ((s.at k).since = s.sets ∧ (s.at k).busy = false) ∨ (s.at k).busy = true) :
    Calls Tryd.prog 34 #[.pointer (some ⟨sp, 0, none⟩), .int .i64 k] w fun e w' => EndA e ∧ AftA N w.heap.size w w' base sp lk ps vc rb rc s := by
  refine (bring_easy (f := 0) N w base sp lk ps vc rb rc s k hS hN hz ft.small hk he).mono ?_
  rintro e w' ⟨rfl, h1, h2, h3, _, h5⟩
  have hb : bringM (0 + 1) s k = (s, ((s.at k).n, (s.at k).e)) ∨ bringM (0 + 1) s k = (s, (0, 7)) := by
    unfold bringM
    simp only
    by_cases h : (s.at k).op = 0 ∨ ((s.at k).since = s.sets ∧ (s.at k).busy = false)
    · rw [if_pos h]; exact .inl rfl
    · rw [if_neg h]
      have hbz : (s.at k).busy = true := by
        rcases he with h1 | h1 | h1
        · exact absurd (.inl h1) h
        · exact absurd (.inr h1) h
        · exact h1
      rw [if_pos hbz]; exact .inr rfl
  rcases hb with e | e
  · rw [e] at h1 ⊢
    exact ⟨.inl ⟨_, _, rfl, ok.errs _ (at_mem hk), ft.num k⟩, s, h1, h2, h3, LedB.below h5 (Nat.le_refl _), RelA.refl s⟩
  · rw [e] at h1 ⊢
    exact ⟨.inl ⟨_, _, rfl, .inr rfl, i64_0⟩, s, h1, h2, h3, LedB.below h5 (Nat.le_refl _), RelA.refl s⟩
/-- what a bringing has, when the deps are looked at -/
structure BrQ (N : Nat → Prop) (H : Nat) (w wr : World) (base sp : Nat) (lk : Int) (ps : List Nat) (vc : Value) (rb rc : Nat) (p : Nat) (y : Sh) (n e : Int) : Prop where
  sh : ShAt (Nbr N H) wr base sp lk ps vc rb rc y
  keep : KeepN N w wr
  below : Below base w wr
  led : LedB H w wr
  box : Blk wr (H + 1) 77 #[.pointer (some ⟨p, 0, none⟩)]
  out : Blk wr H 68 #[.int .i64 n, .int .i64 e]
section
variable {N : Nat → Prop} {w wr w1 w2 : World} {H base sp rb rc k p : Nat} {lk n e : Int} {ps : List Nat} {vc : Value} {s y : Sh}
theorem BrQ.turn (h : BrQ N H w wr base sp lk ps vc rb rc p y n e) (hk : k < ps.length) (hp : p = ps[k]) (hHw : H ≤ wr.heap.size) {j : Nat} {u : Value} {g : Cel → Cel} (he : ∀ vd vl, (celCells (y.at k) vd vl).setIfInBounds j u = celCells (g (y.at k)) vd vl)
    (hd : (g (y.at k)).deps = (y.at k).deps) (ho : (g (y.at k)).once = (y.at k).once) (hl : (g (y.at k)).looks = (y.at k).looks) (hr : (g (y.at k)).runs = (y.at k).runs) :
    BrQ N H w (wr.setCell ⟨p, j, none⟩ u) base sp lk ps vc rb rc p (y.upd k g) n e := by
  subst hp
  obtain ⟨vd, vl, hv⟩ := h.sh.each k hk
  exact ⟨h.sh.set hk he hd ho hl hr, h.keep.trans (KeepN.setCell (p := ⟨ps[k], j, none⟩) (fun hn => hv.np (.inl hn)) _), h.below.setCell (p := ⟨ps[k], j, none⟩) hv.base_ _, h.led.trans (LedB.oth (Oth1.set _ _ _) hHw hv.blk),
    h.box.far (p := ⟨ps[k], j, none⟩) (blk_ne h.box hv.blk (by decide)) _, h.out.far (p := ⟨ps[k], j, none⟩) (blk_ne h.out hv.blk (by decide)) _⟩
theorem BrQ.drew (h : BrQ N H w wr base sp lk ps vc rb rc p y n e) : BrQ N H w wr.drew base sp lk ps vc rb rc p y n e := ⟨h.sh.drew, h.keep, h.below.drew, h.led, h.box, h.out⟩
theorem BrQ.res (h : BrQ N H w wr base sp lk ps vc rb rc p y n e) (hN : ∀ j, N j → j < H) (hH : base ≤ H) (n' e' : Int) :
    BrQ N H w ((wr.setCell ⟨H, 0, none⟩ (.int .i64 n')).setCell ⟨H, 1, none⟩ (.int .i64 e')) base sp lk ps vc rb rc p y n' e' := by
  have hnN : ¬ N H := fun hn => by have := hN H hn; omega
  have hk : ∀ j, j ≠ H → ((wr.setCell ⟨H, 0, none⟩ (.int .i64 n')).setCell ⟨H, 1, none⟩ (.int .i64 e')).heap[j]? = wr.heap[j]? := fun j hj =>
    (Below.heap_setCell _ ⟨H, 1, none⟩ _ j hj).trans (Below.heap_setCell _ ⟨H, 0, none⟩ _ j hj)
  refine ⟨h.sh.other (fun j _ hj => hk j fun e => hj (.inr (.inl e))) fun j => .inl, h.keep.trans fun j hj => hk j fun e => hnN (e ▸ hj), (h.below.setCell (p := ⟨H, 0, none⟩) hH _).setCell (p := ⟨H, 1, none⟩) hH _,
    h.led.trans (LedB.of_same fun b hb => hk b (by omega)), (hk _ (by omega)).trans h.box, (h.out.set_ 0 (.int .i64 n')).set_ 1 (.int .i64 e')⟩
/-- after a callee -/
theorem BrQ.after (h : BrQ N H w wr base sp lk ps vc rb rc p y n e) (hS : ShAt (Nbr N H) w2 base sp lk ps vc rb rc s) (hk : KeepN (Nbr N H) wr w2) (hb : Below base wr w2) (hl : LedB H wr w2) : BrQ N H w w2 base sp lk ps vc rb rc p s n e :=
  ⟨hS, h.keep.trans (hk.mono fun _ h => .inl h), h.below.trans hb, h.led.trans hl, (hk _ (.inr (.inr rfl))).trans h.box, (hk _ (.inr (.inl rfl))).trans h.out⟩
end

/-- a bringing that breaks off: what was busy is busy no more -/
theorem bring_break {N : Nat → Prop} {w wr : World} {H base sp rb rc k : Nat} {lk n e : Int} {ps : List Nat} {vc : Value} {s y : Sh} {fn : Func} {tmps : Array Value} (hk : k < ps.length) (h : BrQ N H w wr base sp lk ps vc rb rc (ps[k]) y n e) (hHw : H ≤ wr.heap.size) (hH : H = w.heap.size)
    (hR : RelA s (y.upd k fun c => { c with busy := false })) :
    Leaves Tryd.prog fn tmps (fun e w' => EndA e ∧ AftA N w.heap.size w w' base sp lk ps vc rb rc s) [{ target := .fn (.func 46) #[.pointer (some ⟨H + 1, 0, none⟩)], args := #[] }] (.panicking enoughC) wr := by
  obtain ⟨vd, vl, hv⟩ := h.sh.each k hk
  have cb := h.box.cell 0
  have c9 := hv.blk.cell 9
  have f9 := hv.blk.frozen 9
  simp [celCells] at cb c9
  refine leaves_cons (f := 46) (args := #[.pointer (some ⟨H + 1, 0, none⟩)]) (by simp) (by simp [go_sem]) ?_
  refine (busy_deferred (H + 1) ps[k] _ (.panicking enoughC) _ cb c9 f9).mono ?_
  rintro e u' w'' ⟨rfl, rfl, rfl⟩
  have hT := h.turn hk rfl hHw (j := 9) (u := .bool false) (g := fun c => { c with busy := false }) (fun _ _ => rfl) rfl rfl rfl rfl
  exact ⟨.inr rfl, _, hT.sh.other (fun _ _ _ => rfl) fun j hj => .inl (.inl hj), hT.keep, hT.below, hH ▸ hT.led, hR⟩

/-- a bringing that comes to its end -/
theorem bring_done {N : Nat → Prop} {w wr : World} {H base sp rb rc k : Nat} {lk n e : Int} {ps : List Nat} {vc : Value} {s y : Sh} {tmps : Array Value} (hk : k < ps.length) (h : BrQ N H w wr base sp lk ps vc rb rc (ps[k]) y n e) (hHw : H ≤ wr.heap.size) (hH : H = w.heap.size)
    (hE : EndA (.returned (.agg #[.int .i64 n, .int .i64 e]))) (hR : RelA s (y.upd k fun c => { c with busy := false })) (h4 : tmps.getD 4 undef = .pointer (some ⟨H, 0, none⟩)) :
    Leaves Tryd.prog Tryd.f34 tmps (fun e w' => EndA e ∧ AftA N w.heap.size w w' base sp lk ps vc rb rc s) [{ target := .fn (.func 46) #[.pointer (some ⟨H + 1, 0, none⟩)], args := #[] }] .returning wr := by
  obtain ⟨vd, vl, hv⟩ := h.sh.each k hk
  have cb := h.box.cell 0
  have c9 := hv.blk.cell 9
  have f9 := hv.blk.frozen 9
  simp [celCells] at cb c9
  refine leaves_cons (f := 46) (args := #[.pointer (some ⟨H + 1, 0, none⟩)]) (by simp) (by simp [go_sem]) ?_
  refine (busy_deferred (H + 1) ps[k] _ .returning _ cb c9 f9).mono ?_
  rintro e u' w'' ⟨rfl, rfl, rfl⟩
  have hT := h.turn hk rfl hHw (j := 9) (u := .bool false) (g := fun c => { c with busy := false }) (fun _ _ => rfl) rfl rfl rfl rfl
  exact ⟨_, bring_out h4 hT.out, hE, _, hT.sh.other (fun _ _ _ => rfl) fun j hj => .inl (.inl hj), hT.keep, hT.below, hH ▸ hT.led, hR⟩

set_option maxHeartbeats 4000000 in
set_option maxRecDepth 100000 in
/-- a cell that must be brought up to date -/
theorem bring_hardA {f : Nat} (hbo : BrA f) (N : Nat → Prop) (w : World) (base sp : Nat) (lk : Int) (ps : List Nat) (vc : Value) (rb rc : Nat) (s : Sh) (k : Nat) (hS : ShAt N w base sp lk ps vc rb rc s) (hN : ∀ j, N j → j < w.heap.size) (hz : base ≤ w.heap.size) (ok : s.Ok) (ft : s.FitA) (hk : k < s.cs.length) (hf : s.nb < f + 1)
    (ho : (s.at k).op ≠ 0) (h1 : (s.at k).since ≠ s.sets) (hb : (s.at k).busy = false) :
    Calls Tryd.prog 34 #[.pointer (some ⟨sp, 0, none⟩), .int .i64 k] w fun e w' => EndA e ∧ AftA N w.heap.size w w' base sp lk ps vc rb rc s := by
  have hlen := hS.len
  have hkp : k < ps.length := by omega
  have hpsm : ps.length ≤ 1048576 := by have := ft.small; omega
  obtain ⟨gc, gcap, rfl, hgc, _⟩ := hS.cells.form (by omega)
  obtain ⟨vd, vl, hv⟩ := hS.each k hkp
  have m2 := hS.sheet.cell 2
  have m4 := hS.sheet.cell 4
  have cg : w.cell? ⟨gc, k, none⟩ = some (.pointer (some ⟨ps[k], 0, none⟩)) := own_cell hS.cells k _ (by rw [List.getElem?_map, List.getElem?_eq_getElem hkp]; rfl)
  have c0 := hv.blk.cell 0
  have c5 := hv.blk.cell 5
  have c6 := hv.blk.cell 6
  have c8 := hv.blk.cell 8
  have c9 := hv.blk.cell 9
  simp [celCells] at m2 m4 c0 c5 c6 c8 c9
  have A : ∀ {a : Addr} {v : Value}, w.cell? a = some v → (w.alloc (.cells #[.int .i64 0, .int .i64 0] 68)).cell? a = some v := fun {a} {v} h => (World.cell?_alloc_old w _ a (World.new_ne w a h).symm).trans h
  replace m2 := A m2
  replace m4 := A m4
  replace cg := A cg
  replace c0 := A c0
  replace c5 := A c5
  replace c6 := A c6
  replace c8 := A c8
  replace c9 := A c9
  clear A
  have i1 : (0 : Int) ≤ (k : Int) := by omega
  have i2 : (k : Int) < (ps.length : Int) := by omega
  have Hlen := Lib.hid hlen
  clear hlen
  go_enter_defers Tryd.func34, Tryd.ntmps34
  go_upto_region 2 with fail
  obtain ⟨w2, hw2⟩ : ∃ w2, w2 = (w.alloc (.cells #[.int .i64 0, .int .i64 0] 68)).alloc (.cells #[.pointer (some ⟨ps[k], 0, none⟩)] 77) := ⟨_, rfl⟩
  have hb2 : Below w.heap.size w w2 := by rw [hw2]; exact ((Below.refl _ _).alloc (Nat.le_refl _) _).alloc (by simp) _
  have hbr : Blk w2 w.heap.size 68 #[.int .i64 0, .int .i64 0] := by rw [hw2]; exact (Blk.new _ _ _).alloc _
  have hbc : Blk w2 (w.heap.size + 1) 77 #[.pointer (some ⟨ps[k], 0, none⟩)] := by rw [hw2]; exact blk_new1 _ _ _ _
  rw [← hw2]
  clear hw2 m2 m4 cg c0 c5 c6 c8 c9
  have hS2 := hS.below hb2
  obtain ⟨vd, vl, hv⟩ := hS2.each k hkp
  obtain ⟨Ad, cd, hvd⟩ := own_form hv.deps
  subst hvd
  have m4 := hS2.sheet.cell 4
  have c0 := hv.blk.cell 0
  have c5 := hv.blk.cell 5
  have c6 := hv.blk.cell 6
  have c8 := hv.blk.cell 8
  have c9 := hv.blk.cell 9
  have cc := hbc.cell 0
  have c4 := hv.blk.cell 4
  have c7 := hv.blk.cell 7
  have f9 := hv.blk.frozen 9
  have hnc : ps[k] ≠ w.heap.size + 1 := blk_ne hv.blk hbc (by decide)
  have hnr : ps[k] ≠ w.heap.size := blk_ne hv.blk hbr (by decide)
  have r0 := hbr.cell 0
  have r1 := hbr.cell 1
  have fr0 := hbr.frozen 0
  have fr1 := hbr.frozen 1
  simp [celCells] at m4 c0 c4 c7 c8 c9 cc r0 r1
  have e0 : ((s.at k).op == 0) = false := by simpa using ho
  have e1 : ((s.at k).since == s.sets) = false := by simpa using h1
  have Ho := Lib.hid ho
  have H1 := Lib.hid h1
  have Hb := Lib.hid hb
  rw [hb] at c9
  clear ho h1 hb
  go_quiet (fail)
  go_upto_block 1 with fail
  obtain ⟨H, hH⟩ : ∃ H, H = w.heap.size := ⟨_, rfl⟩
  have HN : Hid (∀ j, N j → j < H) := by rw [hH]; exact hN
  have hS2' : ShAt (Nbr N H) (w2.drewN nq) base sp lk ps (.slice (some ⟨gc, 0, none⟩) ps.length gcap) rb rc s := (hS.other (N' := Nbr N H) (w' := w2) (fun j hj _ => hb2.block j hj) (fun j hj => by
    rcases hj with h | h | h
    · exact .inl h
    · exact .inr (by omega)
    · exact .inr (by omega))).drewN nq
  have hp9 : ps[k] < w2.heap.size := hv.blk.lt
  have hS3 : ShAt (Nbr N H) ((w2.drewN nq).setCell ⟨ps[k], 9, none⟩ (.bool true)) base sp lk ps (.slice (some ⟨gc, 0, none⟩) ps.length gcap) rb rc (s.upd k fun c => { c with busy := true }) :=
    hS2'.set hkp (f := fun c => { c with busy := true }) (fun _ _ => rfl) rfl rfl rfl rfl
  have hbr3 : Blk ((w2.drewN nq).setCell ⟨ps[k], 9, none⟩ (.bool true)) H 68 #[.int .i64 0, .int .i64 0] := by rw [hH]; exact Blk.far (p := ⟨ps[k], 9, none⟩) (w := w2.drewN nq) hbr (Ne.symm hnr) _
  have hbc3 : Blk ((w2.drewN nq).setCell ⟨ps[k], 9, none⟩ (.bool true)) (H + 1) 77 #[.pointer (some ⟨ps[k], 0, none⟩)] := by rw [hH]; exact Blk.far (p := ⟨ps[k], 9, none⟩) (w := w2.drewN nq) hbc (Ne.symm hnc) _
  have hnb := nb_busy hk Hb.out
  have hft1 := fitA_busy ft hk
  have hok1 : (s.upd k fun c => { c with busy := true }).Ok := ok.upd (fun _ => ⟨rfl, rfl, rfl, rfl⟩) (fun d hd => ok.deps (s.at k) (at_mem hk) d hd) (ok.errs (s.at k) (at_mem hk))
  have hbW3 : Below base w ((w2.drewN nq).setCell ⟨ps[k], 9, none⟩ (.bool true)) := (below_drewN (hb2.mono hz) nq).setCell (p := ⟨ps[k], 9, none⟩) hv.base_ _
  have HK3 : Hid (KeepN N w ((w2.drewN nq).setCell ⟨ps[k], 9, none⟩ (.bool true))) := (show KeepN N w (w2.drewN nq) from KeepN.below hN (below_drewN hb2 nq)).trans (KeepN.setCell (p := ⟨ps[k], 9, none⟩) hv.np _)
  have HH3 : Hid (LedB w.heap.size w ((w2.drewN nq).setCell ⟨ps[k], 9, none⟩ (.bool true))) := (show LedB w.heap.size w (w2.drewN nq) from LedB.below (below_drewN hb2 nq) (Nat.le_refl _)).trans (LedB.oth (Oth1.set _ 9 _) hb2.size (show Blk (w2.drewN nq) ps[k] _ _ from hv.blk))
  have hd3 : ((w2.drewN nq).setCell ⟨ps[k], 9, none⟩ (.bool true)).ownsRow base 115 3 (.slice Ad (s.at k).deps.length cd) (s.at k).deps.length (depCells (s.at k).deps) :=
    own_of_block (w := w2.drewN nq) hv.deps fun b hb => Below.heap_setCell _ _ _ _ fun e => own_ne hv.deps hv.blk (by decide) (by rw [hb, e])
  have c73 : ((w2.drewN nq).setCell ⟨ps[k], 9, none⟩ (.bool true)).cell? ⟨ps[k], 7, none⟩ = some (.slice Ad (s.at k).deps.length cd) := (World.cell?_setCell_other _ ⟨ps[k], 9, none⟩ ⟨ps[k], 7, none⟩ _ (by simp)).trans c7
  have hs3 : H + 1 < ((w2.drewN nq).setCell ⟨ps[k], 9, none⟩ (.bool true)).heap.size := hbc3.lt
  have hpk : base ≤ ps[k] := hv.base_
  have hdl := own_le hd3
  rw [← hH] at HH3 ⊢
  clear hS hN hS2 hv c0 c4 c5 c6 c7 c8 c9 cc m4 r0 r1 fr0 fr1 f9 hbr hbc hnc hnr hp9 hb2 hS2'
  generalize (w2.drewN nq).setCell ⟨ps[k], 9, none⟩ (.bool true) = w3 at *
  have hat1 : (s.upd k fun c => { c with busy := true }).at k = { s.at k with busy := true } := upd_at_same hk
  have hl1 : ∀ d ∈ (s.at k).deps, d.c < (s.upd k fun c => { c with busy := true }).cs.length := fun d hd => by rw [upd_len]; exact ok.deps _ (at_mem hk) d hd
  have hs1 : ∃ s1, s1 = (s.upd k fun c => { c with busy := true }) := ⟨_, rfl⟩
  obtain ⟨s1, hs1⟩ := hs1
  rw [← hs1] at hat1 hl1 hS3 hok1 hft1 hnb
  have HQ0 : Hid (BrQ N H w w3 base sp lk ps (.slice (some ⟨gc, 0, none⟩) ps.length gcap) rb rc ps[k] s1 0 0) := ⟨hS3, HK3.out, hbW3, HH3.out, hbc3, hbr3⟩
  have HBk : Hid (∀ (y : Sh) (g : Cel → Cel), RelA s1 y → (∀ c, g c = { c with since := (g c).since, busy := false }) → RelA s (y.upd k g)) := fun y g h hg => by
    rw [hs1] at h
    exact h.back hk Hb.out hg
  have hnb1 : s1.nb < f := by omega
  have hzH : base ≤ H := by omega
  have HhH := Lib.hid hH
  clear hH
  have Hs1 := Lib.hid hs1
  have Hat1 := Lib.hid hat1
  have Hl1 := Lib.hid hl1
  have Hd3 := Lib.hid hd3
  have C73 := Lib.hid c73
  have NH : Hid (∀ j, Nbr N H j → j < w3.heap.size) := fun j hj => by
    rcases hj with h | h | h
    · have := HN.out j h; omega
    · omega
    · omega
  clear hs1 hat1 hl1 hd3 c73 hS3

  have hop1 : (s1.at k).op ≠ 0 := by rw [Hat1.out]; exact Ho.out
  have hk1 : k < s1.cs.length := by rw [Hs1.out, upd_len]; exact hk
  have hset1 : s1.sets = s.sets := by rw [Hs1.out]; rfl
  have Hop1 := Lib.hid hop1
  have Hset1 := Lib.hid hset1
  clear hop1 hset1 hnb hbr3 hbc3 HK3 hbW3 HH3
  go_cut [6] from 6 to 76 (fun s6 wc => ∃ (b : Bool) (y : Sh), s6 = .bool b ∧ Hid (BrQ N H w wc base sp lk ps (.slice (some ⟨gc, 0, none⟩) ps.length gcap) rb rc ps[k] y 0 0) ∧ Hid (RelA s1 y) ∧ w3.heap.size ≤ wc.heap.size)
  case first =>
    go_wp2_with fail
    go_loopw [6, 65] (fun s6 i wr => s6 = .bool (!(s.at k).ran) ∧ ∃ j : Nat, i = .int .i64 j ∧ j ≤ (s.at k).deps.length ∧ ∃ y, Hid (BrQ N H w wr base sp lk ps (.slice (some ⟨gc, 0, none⟩) ps.length gcap) rb rc ps[k] y 0 0) ∧ Hid (RelA s1 y) ∧ w3.heap.size ≤ wr.heap.size ∧ Hid (LedB w3.heap.size w3 wr)) (fun _ i _ => (s.at k).deps.length - (intOf i).toNat)
    case atStart => exact ⟨rfl, 0, rfl, Nat.zero_le _, s1, HQ0, RelA.refl s1, Nat.le_refl _, LedB.refl⟩
    case round =>
      obtain ⟨rfl, j, rfl, hj, y, HQ, HRl, hzr3, HLd⟩ := hrel
      by_cases hlt : j < (s.at k).deps.length
      · have hdw : wr.ownsRow base 115 3 (.slice Ad (s.at k).deps.length cd) (s.at k).deps.length (depCells (s.at k).deps) :=
          own_of_block Hd3.out fun b hb => HLd.out b (Hd3.out.lt b hb).2 (by obtain ⟨cs, fr, h⟩ := own_ty Hd3.out b hb; exact ⟨cs, fr, h⟩)
        obtain ⟨gd, cd', hvd, _, _⟩ := World.ownsRow.form hdw (by omega)
        obtain rfl : Ad = some ⟨gd, 0, none⟩ := by injection hvd
        clear hvd
        have d0 := own_cell hdw (j * 3 + 0) _ (depCells_get _ j 0 (by omega) hlt)
        have d1 := own_cell hdw (j * 3 + 1) _ (depCells_get _ j 1 (by omega) hlt)
        have d2 := own_cell hdw (j * 3 + 2) _ (depCells_get _ j 2 (by omega) hlt)
        simp only [Nat.add_zero] at d0
        have i1 : (0 : Int) ≤ (j : Int) := by omega
        have i2 : (j : Int) < ((s.at k).deps.length : Int) := by omega
        have i3 : decide (j < (s.at k).deps.length) = true := by simpa using hlt
        clear hdw
        have hmem : (s.at k).deps[j] ∈ (s.at k).deps := List.getElem_mem hlt
        have hdc0 : (s.at k).deps[j].c < y.cs.length := by
          have := Hl1.out _ hmem
          rw [HRl.out.len]; exact this
        obtain ⟨dj, hdj⟩ : ∃ dj, dj = (s.at k).deps[j] := ⟨_, rfl⟩
        rw [← hdj] at d0 d1 d2 hdc0
        clear hdj hmem
        obtain ⟨dc, dn, de⟩ := dj
        simp at d0 d1 d2 hdc0
        go_upto_region 12 with fail
        obtain ⟨g, hg⟩ : ∃ g, g = wr.heap.size := ⟨_, rfl⟩
        have hzr : base ≤ wr.heap.size := by omega
        have hNr : ∀ j, Nbr N H j → j < wr.heap.size := fun j hj => by have := NH.out j hj; omega
        have hS5 : ShAt (fun j => Nbr N H j ∨ j = g) (wr.alloc (.cells #[.int .i64 (dc : Int), .int .i64 dn, .int .i64 de] 115)) base sp lk ps (.slice (some ⟨gc, 0, none⟩) ps.length gcap) rb rc y :=
          HQ.out.sh.other (fun j hj _ => Below.heap_alloc wr _ j hj) fun j hj => hj.imp id fun e => by omega
        have hB5 : Blk (wr.alloc (.cells #[.int .i64 (dc : Int), .int .i64 dn, .int .i64 de] 115)) g 115 #[.int .i64 (dc : Int), .int .i64 dn, .int .i64 de] := by rw [hg]; exact Blk.new _ _ _
        have hb5 : Below wr.heap.size wr (wr.alloc (.cells #[.int .i64 (dc : Int), .int .i64 dn, .int .i64 de] 115)) := (Below.refl _ _).alloc (Nat.le_refl _) _
        rw [← hg]
        have Hg := Lib.hid hg
        clear hg
        obtain ⟨w5, hw5⟩ : ∃ w5, w5 = wr.alloc (.cells #[.int .i64 (dc : Int), .int .i64 dn, .int .i64 de] 115) := ⟨_, rfl⟩
        rw [← hw5] at hS5 hB5 hb5 ⊢
        clear hw5
        have HC : Hid (Calls Tryd.prog 34 #[.pointer (some ⟨sp, 0, none⟩), .int .i64 dc] w5.drew fun e w' => EndA e ∧ ∃ y', BrQ N H w w' base sp lk ps (.slice (some ⟨gc, 0, none⟩) ps.length gcap) rb rc ps[k] y' 0 0 ∧ RelA s1 y' ∧ w3.heap.size ≤ w'.heap.size ∧ LedB w3.heap.size w3 w' ∧ Blk w' g 115 #[.int .i64 (dc : Int), .int .i64 dn, .int .i64 de]) := by
          have hz5 := hb5.size
          refine (show Calls _ _ _ w5.drew _ from hbo (fun j => Nbr N H j ∨ j = g) w5.drew base sp lk ps _ rb rc y dc hS5.drew (fun j hj => ?_) (Nat.le_trans hzr hz5) (HRl.out.ok hok1) (HRl.out.fit hft1) hdc0 (by rw [HRl.out.nb]; exact hnb1)).mono ?_
          · rcases hj with hj | hj
            · exact Nat.lt_of_lt_of_le (hNr j hj) hz5
            · rw [hj]; exact hB5.lt
          · rintro e w' ⟨he, y', a1, a2, a3, a4, a5⟩
            have a2' : KeepN (fun j => Nbr N H j ∨ j = g) w5 w' := a2
            have a3' : Below base w5 w' := (Below.refl _ _).drew.trans a3
            have a4' : LedB w5.heap.size w5 w' := a4
            have hz' := a3'.size
            refine ⟨he, y', ?_, HRl.out.trans a5, by omega, ?_, (a2' g (.inr rfl)).trans hB5⟩
            · exact HQ.out.after (a1.other (fun _ _ _ => rfl) fun j hj => .inl (.inl hj)) ((KeepN.below hNr hb5).trans (a2'.mono fun _ h => .inl h)) ((hb5.mono hzr).trans a3') ((LedB.below hb5 (by omega)).trans (a4'.mono (by omega)))
            · exact HLd.out.trans ((LedB.below hb5 hzr3).trans (a4'.mono (by omega)))
        have b0 := hB5.cell 0
        have b1 := hB5.cell 1
        have b2 := hB5.cell 2
        simp at b0 b1 b2
        clear hS5 hB5 hb5 hNr hzr hdc0 d0 d1 d2 HQ HRl HLd
        refine wp_panics (fun w' => ∃ y', Hid (BrQ N H w w' base sp lk ps (.slice (some ⟨gc, 0, none⟩) ps.length gcap) rb rc ps[k] y' 0 0) ∧ Hid (RelA s1 y')) ?_ ?_
        · go_region_with (go_at_call 34; refine HC.out.mono ?_; rintro e w6 ⟨he, y', h1, h2, h3, h4, B6⟩; have p0 := B6.cell 0; have p1 := B6.cell 1; have p2 := B6.cell 2; simp at p0 p1 p2; have H1 := Lib.hid h1; have H2 := Lib.hid h2; have H4 := Lib.hid h4; clear h1 h2 h4 B6 HC b0 b1 b2; rcases he with ⟨nn, er, he, _⟩ | rfl; rotate_left; exact PPost.panic rfl ⟨y', H1, H2⟩; obtain ⟨vv, hvv⟩ : ∃ vv, vv = Value.agg #[.int .i64 nn, .int .i64 er] := ⟨_, rfl⟩; obtain ⟨q, E1, E2⟩ := outcome_neq nn er dn de; rw [← hvv] at he E1 E2; clear hvv; subst he)
          all_goals
            refine PPost.normal ?_
            cases q
            · go_wp2_with fail
              go_roundw
              case rel => exact ⟨rfl, j + 1, by go_num, by omega, y', H1, H2, h3, H4⟩
              case measure => simp [intOf]; omega
            · go_wp2_with fail
              go_meet
              exact ⟨_, y', rfl, H1, H2, h3⟩
        · rintro ⟨ta, da⟩ w' hd ⟨y', H1, H2⟩
          dsimp only at hd
          subst hd
          exact bring_break hkp H1.out (by have := H1.out.box.lt; omega) HhH.out (HBk.out y' (fun c => { c with busy := false }) H2.out fun _ => rfl)
      · have hd : decide (j < (s.at k).deps.length) = false := by simpa using hlt
        go_wp2_with fail
        go_meet
        exact ⟨_, y, rfl, HQ, HRl, hzr3⟩
  case rest =>
    obtain ⟨b, y, rfl, HQ, HRl, hzc⟩ := hcut
    have NHc : ∀ j, Nbr N H j → j < wc.heap.size := fun j hj => Nat.lt_of_lt_of_le (NH.out j hj) hzc
    have hzb : base ≤ wc.heap.size := by omega
    cases b
    case' true =>
      go_wp2_with fail
      refine (run_anyA hbo (N := Nbr N H) wc base sp lk ps _ rb rc y k HQ.out.sh NHc hzb (HRl.out.ok hok1) (HRl.out.fit hft1) (by rw [HRl.out.len]; exact hk1) (by rw [(HRl.out.rule k).1]; exact Hop1.out) (by rw [HRl.out.nb]; exact hnb1)).mono ?_
      rintro e wy ⟨he, Y, a1, a2, a3, a4, a5⟩
      have hB : BrQ N H w wy base sp lk ps (.slice (some ⟨gc, 0, none⟩) ps.length gcap) rb rc ps[k] Y 0 0 := HQ.out.after a1 a2 a3 (a4.mono (by omega))
      have HRY : Hid (RelA s1 Y) := HRl.out.trans a5
      clear a1 a2 a3 a4 a5 HQ HRl NHc hzb
      rcases he with rfl | rfl
      case' inr => exact bring_break hkp hB (by have := hB.box.lt; omega) HhH.out (HBk.out Y (fun c => { c with busy := false }) HRY.out fun _ => rfl)
    case' false =>
      have hB := HQ.out
      have HRY := HRl
      clear HQ HRl NHc hzb
      generalize y = Y at hB HRY
      obtain ⟨wy, hwy⟩ : ∃ wy, wy = wc := ⟨_, rfl⟩
      subst hwy
    all_goals
      have HYs : Hid (Y.sets = s.sets) := show _ = _ from HRY.out.sets.trans Hset1.out
      have HYk : Hid (k < Y.cs.length) := show _ < _ by rw [HRY.out.len]; exact hk1
      have HE : Hid (EndA (.returned (.agg #[.int .i64 (Y.at k).n, .int .i64 (Y.at k).e]))) := .inl ⟨_, _, rfl, (HRY.out.ok hok1).errs _ (at_mem HYk.out), (HRY.out.fit hft1).num k⟩
      have HF : Hid (RelA s ((Y.upd k fun c => { c with since := s.sets }).upd k fun c => { c with busy := false })) := by
        rw [upd_upd]
        exact HBk.out Y (fun c => { c with since := s.sets, busy := false }) HRY.out fun _ => rfl
      have cbc := hB.box.cell 0
      have m4 := hB.sh.sheet.cell 4
      obtain ⟨vdy, vly, hvy⟩ := hB.sh.each k hkp
      have c8 := hvy.blk.cell 8
      have f8 := hvy.blk.frozen 8
      have hn1 : ps[k] ≠ H + 1 := blk_ne hvy.blk hB.box (by decide)
      have hn2 : ps[k] ≠ sp := blk_ne hvy.blk hB.sh.sheet (by decide)
      simp [celCells] at cbc m4 c8
      rw [HYs.out] at m4
      go_upto_region 17 with fail
      go_region_held3 (fun w' => w'.cell? ⟨H + 1, 0, none⟩ = some (.pointer (some ⟨ps[k], 0, none⟩)) ∧ w'.cell? ⟨sp, 4, none⟩ = some (.int .i64 s.sets)) (first | (go_keep; done)) (fail)
      have hB3 := (hB.turn hkp rfl (by have := hB.box.lt; omega) (j := 8) (u := .int .i64 s.sets) (g := fun c => { c with since := s.sets }) (fun _ _ => rfl) rfl rfl rfl rfl).drew
      have HZk : Hid ((Y.upd k fun c => { c with since := s.sets }).at k = { Y.at k with since := s.sets }) := show _ = _ from upd_at_same HYk.out
      clear hB cbc m4 c8 f8 hvy
      generalize ((wy.setCell ⟨ps[k], 8, none⟩ (.int .i64 s.sets)).drew) = wz at hB3 ⊢
      generalize (Y.upd k fun c => { c with since := s.sets }) = Z at hB3 HZk HF
      obtain ⟨vdz, vlz, hvz⟩ := hB3.sh.each k hkp
      rw [HZk.out] at hvz
      have c5 := hvz.blk.cell 5
      have c6 := hvz.blk.cell 6
      have cbc := hB3.box.cell 0
      have r0 := hB3.out.cell 0
      have r1 := hB3.out.cell 1
      have fr0 := hB3.out.frozen 0
      have fr1 := hB3.out.frozen 1
      simp [celCells] at c5 c6 cbc r0 r1
      go_wp2_with fail
      exact bring_done hkp (hB3.res HN.out hzH (Y.at k).n (Y.at k).e) (by have := hB3.box.lt; simp; omega) HhH.out HE.out HF.out (by rfl)
/-- a bringing, broken off or not -/
theorem br_okA : ∀ f, BrA f := by
  intro f
  induction f with
  | zero => intro _ _ _ _ _ _ _ _ _ _ _ _ _ _ _ _ _ h; omega
  | succ f ih =>
    intro N w base sp lk ps vc rb rc s k hS hN hz ok ft hk hf
    by_cases ho : (s.at k).op = 0
    · exact bring_easyA N w base sp lk ps vc rb rc s k hS hN hz ok ft hk (.inl ho)
    · by_cases hb : (s.at k).busy = true
      · exact bring_easyA N w base sp lk ps vc rb rc s k hS hN hz ok ft hk (.inr (.inr hb))
      · have hb' : (s.at k).busy = false := by simpa using hb
        by_cases h1 : (s.at k).since = s.sets
        · exact bring_easyA N w base sp lk ps vc rb rc s k hS hN hz ok ft hk (.inr (.inl ⟨h1, hb'⟩))
        · exact bring_hardA ih N w base sp lk ps vc rb rc s k hS hN hz ok ft hk hf ho h1 hb'
end Go.Proofs.YtnadldoebfmgmaaDoor.q
