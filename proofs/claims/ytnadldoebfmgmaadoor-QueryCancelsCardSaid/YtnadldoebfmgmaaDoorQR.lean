/-
  THE WALK of (*query.Sheet).run, out of a bringing's contract.
-/
import Derived.Test.YtnadldoebfmgmaaDoorQK
import Derived.Deep.CutBlock
namespace Go.Proofs.YtnadldoebfmgmaaDoor.q
open Go.RowKit

section
variable {N : Nat → Prop} {w w' : World} {base sp rb rc : Nat} {lk : Int} {ps : List Nat} {vc : Value} {s : Sh}
/-- a rule's count goes up -/
theorem ShAt.setRun (h : ShAt N w base sp lk ps vc rb rc s) {k : Nat} (hk : k < ps.length) (hbr : base ≤ rb) :
    ShAt N (w.setCell ⟨rb, k, none⟩ (.int .i64 ((s.at k).runs + 1))) base sp lk ps vc rb rc (s.upd k fun c => { c with runs := c.runs + 1 }) ∧ Below base w (w.setCell ⟨rb, k, none⟩ (.int .i64 ((s.at k).runs + 1))) := by
  have hk' : k < s.cs.length := by rw [← h.len]; exact hk
  have hty : ∀ {b : Nat} {t : TypeId} {cs : Array Value}, Blk w b t cs → t ≠ 95 → b ≠ rb := fun hb ht e => own_ne h.runs hb (Ne.symm ht) (by rw [e]; rfl)
  have hrow : ∀ {b n size : Nat} {t : TypeId} {v : Value} {xs : List Value}, w.ownsRow b t size v n xs → t ≠ 95 → (w.setCell ⟨rb, k, none⟩ (.int .i64 ((s.at k).runs + 1))).ownsRow b t size v n xs := fun ho ht => own_of_block ho fun j hj => Below.heap_setCell _ _ _ _ fun e => by
    obtain ⟨cs, fr, h1⟩ := own_ty ho j hj
    obtain ⟨cs', fr', h2⟩ := own_ty h.runs rb rfl
    rw [e, h2] at h1
    injection h1 with h1
    injection h1 with _ h1 _
    exact ht h1.symm
  refine ⟨⟨h.sheet.far (hty h.sheet (by decide)) _, hrow h.cells (by decide), ?_, fun i hi => ?_, h.nod, by rw [upd_len]; exact h.len, h.base_, h.nsp, h.nc, h.nr⟩, (Below.refl _ _).setCell (p := ⟨rb, k, none⟩) hbr _⟩
  · have e : (s.upd k fun c => { c with runs := c.runs + 1 }).cs.map (fun c => Value.int .i64 c.runs) = (s.cs.map fun c => Value.int .i64 c.runs).set k (.int .i64 ((s.at k).runs + 1)) := by
      apply List.ext_getElem?
      intro i
      show ((s.cs.modify k _).map _)[i]? = _
      rw [List.getElem?_map, List.getElem?_set]
      by_cases hki : k = i
      · subst hki
        rw [List.getElem?_modify_eq, List.getElem?_eq_getElem hk', if_pos rfl, if_pos (by simpa using hk')]
        have e2 : s.at k = s.cs[k] := by unfold Sh.at; rw [List.getD_eq_getElem?_getD, List.getElem?_eq_getElem hk']; rfl
        rw [e2]; rfl
      · rw [List.getElem?_modify_ne _ _ hki, if_neg hki, List.getElem?_map]
    rw [e]
    exact (h.runs.stored k _).1
  · obtain ⟨vd, vl, hv⟩ := h.each i hi
    have hc : CelV N (w.setCell ⟨rb, k, none⟩ (.int .i64 ((s.at k).runs + 1))) base ps[i] (s.at i) vd vl :=
      ⟨hv.blk.far (hty hv.blk (by decide)) _, hrow hv.deps (by decide), fun e => hrow (hv.l1 e) (by decide), hv.l0, hv.base_, hv.np, hv.nd, hv.nl⟩
    by_cases hki : k = i
    · subst hki
      rw [upd_at_same hk']
      exact ⟨vd, vl, hc.blk, hc.deps, hc.l1, hc.l0, hc.base_, hc.np, hc.nd, hc.nl⟩
    · rw [upd_at_ne hki]
      exact ⟨vd, vl, hc⟩
theorem upd_upd (s : Sh) (k : Nat) (f g : Cel → Cel) : (s.upd k f).upd k g = s.upd k fun c => g (f c) := by
  unfold Sh.upd
  simp only [List.modify_modify_eq]
  rfl
def mostM (s : Sh) : Sh := { s with sets := s.sets, most := s.most - 1 }
def runsM (s : Sh) (k : Nat) : Sh := (mostM s).upd k fun c => { c with runs := c.runs + 1 }
theorem runs_at {s : Sh} {k : Nat} (hk : k < s.cs.length) : (runsM s k).at k = { s.at k with runs := (s.at k).runs + 1 } := upd_at_same (s := mostM s) hk
theorem beg_eq (s : Sh) (k : Nat) : ((runsM s k).upd k fun c => { c with once := true }) = begM s k := by
  unfold runsM
  rw [upd_upd]; rfl
end

section
variable {br : Sh → Nat → Sh × (Int × Int)} {s : Sh} {k : Nat} {x y : Sh × (Int × Int)}
theorem runM_err {ka : Nat} (ha : (s.at k).a.toNat = ka) (hx : br (begM s k) ka = x) (h : x.2.2 ≠ 0) : runM br s k = endM x.1 k [⟨ka, x.2.1, x.2.2⟩] (0, 7) := by
  subst ha
  unfold runM
  simp only [hx, if_pos h]
theorem runM_five {ka : Nat} (ha : (s.at k).a.toNat = ka) (hx : br (begM s k) ka = x) (h : x.2.2 = 0) (h5 : (s.at k).op = 5) : runM br s k = endM x.1 k [⟨ka, x.2.1, x.2.2⟩] (reckonM (s.at k).op x.2.1 0, 0) := by
  subst ha
  unfold runM
  have : ¬ x.2.2 ≠ 0 := by simpa using h
  simp only [hx, if_neg this, if_pos h5]
  rw [h5]
theorem runM_two {ka kn : Nat} {nx : Int} (ha : (s.at k).a.toNat = ka) (hx : br (begM s k) ka = x) (h : x.2.2 = 0) (h5 : (s.at k).op ≠ 5) (hn : (if (s.at k).op = 4 ∧ x.2.1 = 0 then (s.at k).c else (s.at k).b) = nx) (hk : nx.toNat = kn) (hy : br x.1 kn = y) :
    runM br s k = endM y.1 k [⟨ka, x.2.1, x.2.2⟩, ⟨kn, y.2.1, y.2.2⟩] (if (y.2.2 == 0) = true then (reckonM (s.at k).op x.2.1 y.2.1, 0) else (0, 7)) := by
  subst ha hk
  unfold runM
  have : ¬ x.2.2 ≠ 0 := by simpa using h
  simp only [hx, if_neg this, if_neg h5, hn, hy]
  by_cases h2 : y.2.2 = 0
  · simp [h2]
  · simp [h2]
end
/-- what a run has come to when it has looked -/
structure RunP (f : Nat) (s : Sh) (k : Nat) (y : Sh) (dl : List Dep) (nl : List Int) (okB : Bool) : Prop where
  at_ : y.at k = (begM s k).at k
  len : y.cs.length = s.cs.length
  fin : runM (bringM f) s k = endM y k dl (if okB = true then (reckonM (s.at k).op (nl.getD 0 0) (nl.getD 1 0), 0) else (0, 7))
  num : I64 (nl.getD 0 0) ∧ I64 (nl.getD 1 0)
  has : 1 ≤ nl.length ∧ (okB = true → (s.at k).op ≠ 5 → 2 ≤ nl.length)
  small : dl.length ≤ 2 ∧ nl.length ≤ 2
  bz : ∀ j, j ≠ k → (s.at j).busy = true → (y.at j).busy = true

/-- a bringing's contract, for sheets of which less than f cells are to be brought up to date -/
def BrOk (f : Nat) : Prop := ∀ (N : Nat → Prop) (w : World) (base sp : Nat) (lk : Int) (ps : List Nat) (vc : Value) (rb rc : Nat) (s : Sh) (k : Nat), ShAt N w base sp lk ps vc rb rc s → (∀ j, N j → j < w.heap.size) → base ≤ w.heap.size → s.Ok → s.Fits → k < s.cs.length → s.phi < f →
  Calls Tryd.prog 34 #[.pointer (some ⟨sp, 0, none⟩), .int .i64 k] w fun e w' =>
    e = .returned (.agg #[.int .i64 (bringM f s k).2.1, .int .i64 (bringM f s k).2.2]) ∧ ShAt N w' base sp lk ps vc rb rc (bringM f s k).1 ∧ KeepN N w w' ∧ Below base w w' ∧ Held ps.length ps s w w'

section
theorem blk_drew {w : World} {p : Nat} {t : TypeId} {cs : Array Value} (h : Blk w p t cs) : Blk w.drew p t cs := h
theorem oth1_drew {w w' : World} {p : Nat} (h : Oth1 p w w') : Oth1 p w w'.drew := h
/-- the four stores of a run's end -/
theorem run_store {w : World} {p base : Nat} {c : Cel} {vo vl : Value} (vd : Value) (dl : List Dep) (hB : Blk w p 76 (celCells c vo vl)) (hb : base ≤ p) :
    Blk (((((w.setCell ⟨p, 4, none⟩ (.bool true)).setCell ⟨p, 7, none⟩ vd).setCell ⟨p, 5, none⟩ (.int .i64 0)).setCell ⟨p, 6, none⟩ (.int .i64 7)).drew) p 76 (celCells { c with ran := true, deps := dl, n := 0, e := 7 } vd vl) ∧ Oth1 p w (((((w.setCell ⟨p, 4, none⟩ (.bool true)).setCell ⟨p, 7, none⟩ vd).setCell ⟨p, 5, none⟩ (.int .i64 0)).setCell ⟨p, 6, none⟩ (.int .i64 7)).drew) ∧ Below base w (((((w.setCell ⟨p, 4, none⟩ (.bool true)).setCell ⟨p, 7, none⟩ vd).setCell ⟨p, 5, none⟩ (.int .i64 0)).setCell ⟨p, 6, none⟩ (.int .i64 7)).drew) := by
  refine ⟨blk_drew ?_, oth1_drew ?_, ?_⟩
  · have h1 := (((hB.set_ 4 (.bool true)).set_ 7 vd).set_ 5 (.int .i64 0)).set_ 6 (.int .i64 7)
    exact h1
  · intro b hb' hn
    rw [Below.heap_setCell _ _ _ b hn, Below.heap_setCell _ _ _ b hn, Below.heap_setCell _ _ _ b hn, Below.heap_setCell _ _ _ b hn]
  · exact (((((Below.refl base w).setCell (p := ⟨p, 4, none⟩) hb _).setCell (p := ⟨p, 7, none⟩) hb _).setCell (p := ⟨p, 5, none⟩) hb _).setCell (p := ⟨p, 6, none⟩) hb _).drew
/-- the two last stores -/
theorem run_last {w wA : World} {p base : Nat} {c : Cel} {vd vl : Value} {dl : List Dep} (r : Int) (nd : Nat) (h : Blk wA p 76 (celCells { c with ran := true, deps := dl, n := 0, e := 7 } vd vl) ∧ Oth1 p w wA ∧ Below base w wA) (hb : base ≤ p) :
    Blk (((wA.drewN nd).setCell ⟨p, 5, none⟩ (.int .i64 r)).setCell ⟨p, 6, none⟩ (.int .i64 0)) p 76 (celCells { c with ran := true, deps := dl, n := r, e := 0 } vd vl) ∧ Oth1 p w (((wA.drewN nd).setCell ⟨p, 5, none⟩ (.int .i64 r)).setCell ⟨p, 6, none⟩ (.int .i64 0)) ∧ Below base w (((wA.drewN nd).setCell ⟨p, 5, none⟩ (.int .i64 r)).setCell ⟨p, 6, none⟩ (.int .i64 0)) := by
  obtain ⟨h1, h2, h3⟩ := h
  have h1' : Blk (wA.drewN nd) p 76 (celCells { c with ran := true, deps := dl, n := 0, e := 7 } vd vl) := h1
  refine ⟨?_, ?_, ?_⟩
  · have h4 := (h1'.set_ 5 (.int .i64 r)).set_ 6 (.int .i64 0)
    exact h4
  · intro b hb' hn
    rw [Below.heap_setCell _ _ _ b hn, Below.heap_setCell _ _ _ b hn]
    exact h2 b hb' hn
  · exact h3.trans ((((below_drewN (Below.refl base wA) nd).setCell (p := ⟨p, 5, none⟩) hb _).setCell (p := ⟨p, 6, none⟩) hb _))
/-- a run's last stores leave the cell's kind -/
theorem run_cell0 {w : World} {p j : Nat} {u v : Value} (h : w.cell? ⟨p, 0, none⟩ = some v) (hj : j ≠ 0) : (w.setCell ⟨p, j, none⟩ u).cell? ⟨p, 0, none⟩ = some v := by
  have hne : (⟨p, j, none⟩ : Addr) ≠ ⟨p, 0, none⟩ := fun e => by injection e with _ e; exact hj e
  rw [World.cell?_setCell_other (h := hne)]; exact h
/-- whatever was reckoned: the sheet as it is left -/
theorem run_fin {f : Nat} {N : Nat → Prop} {w wc wF : World} {H bc bd bn base sp rb rc : Nat} {lk : Int} {ps : List Nat} {vc vd vn vo vl : Value} {s y : Sh} {k : Nat} {dl : List Dep} {nl : List Int} {okB : Bool} (hkp : k < ps.length) (hk : k < s.cs.length) (HN : ∀ j, N j → j < H) (hz : base ≤ H)
    (hS7 : ShAt (Nrun N H bc bd bn vd vn) wc base sp lk ps vc rb rc y) (hR7 : RunV wc H H bc bd bn sp ps[k] vd vn dl nl) (hv7 : CelV (Nrun N H bc bd bn vd vn) wc base ps[k] { s.at k with runs := (s.at k).runs + 1, once := true } vo vl) (HK7 : KeepN N w wc) (hbW7 : Below base w wc) (HP : RunP f s k y dl nl okB) (HH7 : Held k ps s w wc) (o : Int × Int)
    (h : Blk wF ps[k] 76 (celCells { s.at k with runs := (s.at k).runs + 1, once := true, ran := true, deps := dl, n := o.1, e := o.2 } vd vl) ∧ Oth1 ps[k] wc wF ∧ Below base wc wF) (he : runM (bringM f) s k = endM y k dl o) :
    ShAt N wF base sp lk ps vc rb rc (runM (bringM f) s k) ∧ KeepN N w wF ∧ Below base w wF ∧ Held k ps s w wF := by
  obtain ⟨hB, ho, hb⟩ := h
  have hS8 : ShAt N wc base sp lk ps vc rb rc y := hS7.other (fun _ _ _ => rfl) fun j hj => .inl (.inl hj)
  have hp0 := hv7.base_
  rw [he]
  have hnp : ∀ j, N j → j ≠ ps[k] := fun j hj e => by
    obtain ⟨a1, a2, a3⟩ := hS8.each k hkp
    exact a3.np (e ▸ hj)
  refine ⟨hS8.turn hkp (f := fun c => { c with ran := true, deps := dl, n := o.1, e := o.2 }) ho ?_ rfl, fun j hj => ?_, hbW7.trans hb, HH7.trans (Held.of_oth hS8 hkp ho) fun j _ hj h => HP.bz j hj h⟩
  · rw [HP.at_, beg_at hk]
    refine ⟨vd, vl, hB, ?_, fun e => ?_, hv7.l0, hp0, fun h => hnp _ h rfl, fun j hj hn => ?_, fun j hj hn => hv7.nl j hj (.inl hn)⟩
    · exact own_mono (own_of_block hR7.od fun j hj => ho j (hR7.od.lt j hj).2 fun e => own_ne hR7.od hv7.blk (by decide) (by rw [hj, e])) hz
    · exact own_of_block (hv7.l1 e) fun j hj => ho j ((hv7.l1 e).lt j hj).2 fun e' => own_ne (hv7.l1 e) hv7.blk (by decide) (by rw [hj, e'])
    · have := (hR7.od.lt j hj).1
      have := HN j hn
      omega
  · have h1 := HN j hj
    exact (ho j (by have := hR7.s_.lt; omega) (hnp j hj)).trans (HK7 j hj)
end

set_option maxHeartbeats 8000000 in
set_option maxRecDepth 100000 in
theorem run_walk {f : Nat} (hbr : BrOk f) {N : Nat → Prop} (w : World) (base sp : Nat) (lk : Int) (ps : List Nat) (vc : Value) (rb rc : Nat) (s : Sh) (k : Nat) (hS : ShAt N w base sp lk ps vc rb rc s) (hN : ∀ j, N j → j < w.heap.size) (hz : base ≤ w.heap.size)
    (ok : s.Ok) (hfb : (begM s k).Fits) (hneg : s.most < 0) (hk : k < s.cs.length) (hbusy : (s.at k).busy = true) (hop : (s.at k).op ≠ 0) (hf : s.phi < f) :
    Calls Tryd.prog 47 #[.pointer (some ⟨sp, 0, none⟩), .int .i64 k] w fun e w' => e = .returned (.tuple #[]) ∧ ShAt N w' base sp lk ps vc rb rc (runM (bringM f) s k) ∧ KeepN N w w' ∧ Below base w w' ∧ Held k ps s w w' := by
  have hlen := hS.len
  have Hlen := Lib.hid hlen
  have hkp : k < ps.length := by omega
  have hpsm : ps.length ≤ 1048576 := by have := hfb.small; rw [beg_len] at this; omega
  clear hlen
  obtain ⟨gc, cc, rfl, hgc, _⟩ := hS.cells.form (by omega)
  have hlow : -4611686018427387904 ≤ s.most - 1 - s.phi := by have := hfb.low; rw [beg_phi] at this; exact this
  have hrr := hfb.runs k
  rw [beg_at hk] at hrr
  have hr1 : 0 ≤ (s.at k).runs + 1 := hrr.1
  have hr2 : (s.at k).runs + 1 ≤ 4611686018427387904 := by have := hrr.2; split at this <;> (dsimp only at this; omega)
  have hops := ok.ops _ (at_mem hk)
  have Hmw := Lib.hid (show IntKind.i64.wrap (s.most - 1) = s.most - 1 from IntWalk.i64_in _ (by omega))
  have hmz : (s.most == 0) = false := by simp; omega
  clear hrr
  have i1 : (0 : Int) ≤ (k : Int) := by omega
  have i2 : (k : Int) < (ps.length : Int) := by omega
  have hbsp := hS.base_
  have hbrb : base ≤ rb := (hS.runs.lt rb rfl).1
  have hp0 : base ≤ ps[k] := by obtain ⟨vd, vl, hv⟩ := hS.each k hkp; exact hv.base_
  go_enter Tryd.func47, Tryd.ntmps47
  go_upto_region 1 with fail
  -- the box of s
  have hS0 : ShAt (fun j => N j ∨ j = w.heap.size) (w.alloc (.cells #[.pointer (some ⟨sp, 0, none⟩)] 24)) base sp lk ps (.slice (some ⟨gc, 0, none⟩) ps.length cc) rb rc s :=
    hS.other (fun j hj _ => Below.heap_alloc w _ j hj) fun j hj => hj.imp id fun e => by omega
  have hbs : Blk (w.alloc (.cells #[.pointer (some ⟨sp, 0, none⟩)] 24)) w.heap.size 24 #[.pointer (some ⟨sp, 0, none⟩)] := Blk.new _ _ _
  have hb0 : Below base w (w.alloc (.cells #[.pointer (some ⟨sp, 0, none⟩)] 24)) := (Below.refl _ _).alloc hz _
  have HK0 : Hid (KeepN N w (w.alloc (.cells #[.pointer (some ⟨sp, 0, none⟩)] 24))) := KeepN.below hN ((Below.refl _ _).alloc (Nat.le_refl _) _)
  have HH0 : Hid (Held k ps s w (w.alloc (.cells #[.pointer (some ⟨sp, 0, none⟩)] 24))) := Held.of_below hS ((Below.refl _ _).alloc (Nat.le_refl _) _)
  have hs0 : w.heap.size < (w.alloc (.cells #[.pointer (some ⟨sp, 0, none⟩)] 24)).heap.size := by simp
  obtain ⟨H, hH⟩ : ∃ H, H = w.heap.size := ⟨_, rfl⟩
  have HN : Hid (∀ j, N j → j < H) := by rw [hH]; exact hN
  rw [← hH] at hS0 hbs hs0 hz ⊢
  clear hN hS hH
  generalize w.alloc (.cells #[.pointer (some ⟨sp, 0, none⟩)] 24) = w0 at *
  have cs := hbs.cell 0
  have m5 := hS0.sheet.cell 5
  have m3 := hS0.sheet.cell 3
  have f5 := hS0.sheet.frozen 5
  simp at cs m5 m3
  have hne : H ≠ sp := blk_ne hbs hS0.sheet (by decide)
  have hS1 : ShAt (fun j => N j ∨ j = H) (w0.setCell ⟨sp, 5, none⟩ (.int .i64 (s.most - 1))) base sp lk ps (.slice (some ⟨gc, 0, none⟩) ps.length cc) rb rc (mostM s) := hS0.setSheet (j := 5) (u := .int .i64 (s.most - 1)) (lk' := lk) (sets' := s.sets) (most' := s.most - 1) rfl
  have hb1 : Below base w (w0.setCell ⟨sp, 5, none⟩ (.int .i64 (s.most - 1))) := hb0.setCell (p := ⟨sp, 5, none⟩) hbsp _
  have HK1 : Hid (KeepN N w (w0.setCell ⟨sp, 5, none⟩ (.int .i64 (s.most - 1)))) := HK0.out.trans (KeepN.setCell (p := ⟨sp, 5, none⟩) (fun h => hS0.nsp (.inl h)) _)
  have HH1 : Hid (Held k ps s w (w0.setCell ⟨sp, 5, none⟩ (.int .i64 (s.most - 1)))) := HH0.out.trans (Held.of_far (a := ⟨sp, 5, none⟩) hS0 (.inl rfl) _) fun _ _ _ h => h
  have hbs1 := hbs.far (p := ⟨sp, 5, none⟩) hne (.int .i64 (s.most - 1))
  have hs1 : H < (w0.setCell ⟨sp, 5, none⟩ (.int .i64 (s.most - 1))).heap.size := by simpa using hs0
  have cs1 := hbs1.cell 0
  have n3 := hS1.sheet.cell 3
  simp at cs1 n3
  have mw := Hmw.out
  go_wp2_with fail
  clear mw hmz Hmw cs m5 m3 f5 hne hS0 hb0 HK0 HH0 hbs hs0 cs1 n3
  generalize w0.setCell ⟨sp, 5, none⟩ (.int .i64 (s.most - 1)) = w1 at *
  have cr : w1.cell? ⟨rb, k, none⟩ = some (.int .i64 (s.at k).runs) := own_cell hS1.runs k _ (by
    have e2 : s.at k = s.cs[k] := by unfold Sh.at; rw [List.getD_eq_getElem?_getD, List.getElem?_eq_getElem hk]; rfl
    show (s.cs.map _)[k]? = _
    rw [List.getElem?_map, List.getElem?_eq_getElem hk, e2]; rfl)
  refine (add_walk ⟨rb, k, none⟩ (s.at k).runs _ cr (hS1.runs.frozenAt k) (by omega) (by omega)).mono ?_
  rintro e w' ⟨rfl, rfl⟩
  have hS2 : ShAt (fun j => N j ∨ j = H) (w1.setCell ⟨rb, k, none⟩ (.int .i64 ((s.at k).runs + 1))) base sp lk ps (.slice (some ⟨gc, 0, none⟩) ps.length cc) rb rc (runsM s k) := (hS1.setRun hkp hbrb).1
  have hb2' : Below base w1 (w1.setCell ⟨rb, k, none⟩ (.int .i64 ((s.at k).runs + 1))) := (hS1.setRun hkp hbrb).2
  have hb2 : Below base w (w1.setCell ⟨rb, k, none⟩ (.int .i64 ((s.at k).runs + 1))) := hb1.trans hb2'
  have HK2 : Hid (KeepN N w (w1.setCell ⟨rb, k, none⟩ (.int .i64 ((s.at k).runs + 1)))) := HK1.out.trans (KeepN.setCell (p := ⟨rb, k, none⟩) (fun h => hS1.nr (.inl h)) _)
  have HH2 : Hid (Held k ps s w (w1.setCell ⟨rb, k, none⟩ (.int .i64 ((s.at k).runs + 1)))) := HH1.out.trans (Held.of_far (a := ⟨rb, k, none⟩) hS1 (.inr rfl) _) fun _ _ _ h => h
  have hbs2 : Blk (w1.setCell ⟨rb, k, none⟩ (.int .i64 ((s.at k).runs + 1))) H 24 #[.pointer (some ⟨sp, 0, none⟩)] := hbs1.far (p := ⟨rb, k, none⟩) (fun e => own_ne hS1.runs hbs1 (by decide) (by rw [e]; rfl)) _
  have hs2 : H < (w1.setCell ⟨rb, k, none⟩ (.int .i64 ((s.at k).runs + 1))).heap.size := by simpa using hs1
  clear cr hb2' hb1 HK1 HH1 hbs1 hs1 hS1
  generalize w1.setCell ⟨rb, k, none⟩ (.int .i64 ((s.at k).runs + 1)) = w2 at *
  have cs := hbs2.cell 0
  have m1 := hS2.sheet.cell 1
  have m2 := hS2.sheet.cell 2
  have cg : w2.cell? ⟨gc, k, none⟩ = some (.pointer (some ⟨ps[k], 0, none⟩)) := own_cell hS2.cells k _ (by rw [List.getElem?_map, List.getElem?_eq_getElem hkp]; rfl)
  simp at cs m1 m2
  go_wp2_with fail
  -- the box of c
  have hS3 : ShAt (fun j => (N j ∨ j = H) ∨ j = w2.heap.size) (w2.alloc (.cells #[.pointer (some ⟨ps[k], 0, none⟩)] 77)) base sp lk ps (.slice (some ⟨gc, 0, none⟩) ps.length cc) rb rc (runsM s k) :=
    hS2.other (fun j hj _ => Below.heap_alloc w2 _ j hj) fun j hj => hj.imp id fun e => by omega
  have hbc : Blk (w2.alloc (.cells #[.pointer (some ⟨ps[k], 0, none⟩)] 77)) w2.heap.size 77 #[.pointer (some ⟨ps[k], 0, none⟩)] := Blk.new _ _ _
  have hbs3 := hbs2.alloc (.cells #[.pointer (some ⟨ps[k], 0, none⟩)] 77)
  have hb3 : Below base w (w2.alloc (.cells #[.pointer (some ⟨ps[k], 0, none⟩)] 77)) := hb2.alloc (by omega) _
  have HK3 : Hid (KeepN N w (w2.alloc (.cells #[.pointer (some ⟨ps[k], 0, none⟩)] 77))) := HK2.out.trans fun j hj => Below.heap_alloc w2 _ j (by have := HN.out j hj; omega)
  have HH3 : Hid (Held k ps s w (w2.alloc (.cells #[.pointer (some ⟨ps[k], 0, none⟩)] 77))) := HH2.out.trans (Held.of_below hS2 ((Below.refl _ _).alloc (Nat.le_refl _) _)) fun j _ hj h => by unfold runsM; rw [upd_at_ne (Ne.symm hj)]; exact h
  have hs3 : w2.heap.size < (w2.alloc (.cells #[.pointer (some ⟨ps[k], 0, none⟩)] 77)).heap.size := by simp
  obtain ⟨bc, hbcn⟩ : ∃ bc, bc = w2.heap.size := ⟨_, rfl⟩
  rw [← hbcn] at hS3 hbc hs3 hs2 ⊢
  clear hS2 hb2 HK2 HH2 hbs2 cs m1 m2 cg hbcn
  generalize w2.alloc (.cells #[.pointer (some ⟨ps[k], 0, none⟩)] 77) = w3 at *
  have hC3 := hS3.each k hkp
  have cc0 := hbc.cell 0
  simp at cc0
  have hnbc : bc ≠ ps[k] := by
    obtain ⟨vd, vl, hv⟩ := hC3
    exact blk_ne hbc hv.blk (by decide)
  rw [runs_at hk] at hC3
  have hN3 : ∀ j, ((N j ∨ j = H) ∨ j = bc) → j < w3.heap.size := fun j hj => by
    rcases hj with (hj | hj) | hj
    · have := HN.out j hj; omega
    · omega
    · omega
  have HN3 := Lib.hid hN3
  clear hN3
  refine (once_walk base ps[k] bc { s.at k with runs := (s.at k).runs + 1 } w3 hops cc0 hnbc hC3 HN3.out (by omega)).mono ?_
  rintro e w4 ⟨rfl, hC4, ho4, hb4⟩
  have hz34 := hb4.size
  have hS4 : ShAt (fun j => (N j ∨ j = H) ∨ j = bc) w4 base sp lk ps (.slice (some ⟨gc, 0, none⟩) ps.length cc) rb rc (begM s k) := by
    rw [← beg_eq]
    exact hS3.turn hkp (f := fun c => { c with once := true }) ho4 (by rw [runs_at hk]; exact hC4) rfl
  have hbp : ∀ j, ((N j ∨ j = H) ∨ j = bc) → j ≠ ps[k] := fun j hj e => by
    obtain ⟨vd, vl, hv⟩ := hC3
    exact hv.np (e ▸ hj)
  have hbs4 : Blk w4 H 24 #[.pointer (some ⟨sp, 0, none⟩)] := (ho4 H hbs3.lt (hbp H (.inl (.inr rfl)))).trans hbs3
  have hbc4 : Blk w4 bc 77 #[.pointer (some ⟨ps[k], 0, none⟩)] := (ho4 bc hbc.lt (hbp bc (.inr rfl))).trans hbc
  have HK4 : Hid (KeepN N w w4) := HK3.out.trans fun j hj => ho4 j (HN3.out j (.inl (.inl hj))) (hbp j (.inl (.inl hj)))
  have HH4 : Hid (Held k ps s w w4) := HH3.out.trans (Held.of_oth hS3 hkp ho4) fun j _ hj h => by unfold runsM; rw [upd_at_ne (Ne.symm hj)]; exact h
  have hbW4 := hb3.trans hb4
  have HN4 : Hid (∀ j, ((N j ∨ j = H) ∨ j = bc) → j < w4.heap.size) := fun j hj => Nat.lt_of_lt_of_le (HN3.out j hj) hz34
  clear hS3 hC3 hC4 ho4 hb3 hb4 HK3 HH3 hbs3 hbc cc0 hnbc hbp HN3
  go_upto_region 10 with fail
  have hS5 : ShAt (Nrun N H bc w4.heap.size (w4.heap.size + 1) (.slice none 0 0) (.slice none 0 0)) ((w4.alloc (.cells #[.slice none 0 0] 69)).alloc (.cells #[.slice none 0 0] 23)) base sp lk ps (.slice (some ⟨gc, 0, none⟩) ps.length cc) rb rc (begM s k) := by
    refine hS4.other (fun j hj _ => (Below.heap_alloc _ _ j (by simp; omega)).trans (Below.heap_alloc _ _ j hj)) fun j hj => ?_
    rcases hj with h | h | h | h | h | h | h
    · exact .inl (.inl (.inl h))
    · exact .inl (.inl (.inr h))
    · exact .inl (.inr h)
    · exact .inr (by omega)
    · exact .inr (by omega)
    · simp [Value.ownBlock] at h
    · simp [Value.ownBlock] at h
  have hR5 : RunV ((w4.alloc (.cells #[.slice none 0 0] 69)).alloc (.cells #[.slice none 0 0] 23)) H H bc w4.heap.size (w4.heap.size + 1) sp ps[k] (.slice none 0 0) (.slice none 0 0) [] [] :=
    ⟨(hbs4.alloc _).alloc _, (hbc4.alloc _).alloc _, (Blk.new _ _ _).alloc _, blk_new1 _ _ _ _, World.ownsRow_nil _ _ _ _, World.ownsRow_nil _ _ _ _, Nat.le_refl _, by omega, by omega, by omega⟩
  have hbW5 : Below base w ((w4.alloc (.cells #[.slice none 0 0] 69)).alloc (.cells #[.slice none 0 0] 23)) := (hbW4.alloc (by omega) _).alloc (by simp; omega) _
  have HK5 : Hid (KeepN N w ((w4.alloc (.cells #[.slice none 0 0] 69)).alloc (.cells #[.slice none 0 0] 23))) := HK4.out.trans fun j hj => by
    have h1 := HN4.out j (.inl (.inl hj))
    exact (Below.heap_alloc _ _ j (by simp; omega)).trans (Below.heap_alloc _ _ j h1)
  have HH5 : Hid (Held k ps s w ((w4.alloc (.cells #[.slice none 0 0] 69)).alloc (.cells #[.slice none 0 0] 23))) := HH4.out.trans (Held.of_below hS4 (((Below.refl _ _).alloc (Nat.le_refl _) _).alloc (by simp) _)) fun j _ hj h => by rw [beg_but.busy j hj]; exact h
  have hs5 : H ≤ ((w4.alloc (.cells #[.slice none 0 0] 69)).alloc (.cells #[.slice none 0 0] 23)).heap.size := by simp; omega
  obtain ⟨bd, hbd⟩ : ∃ bd, bd = w4.heap.size := ⟨_, rfl⟩
  obtain ⟨bn, hbn⟩ : ∃ bn, bn = w4.heap.size + 1 := ⟨_, rfl⟩
  rw [← hbn] at hS5 hR5 ⊢
  rw [← hbd] at hS5 hR5 ⊢
  have hlk := ok.looks _ (at_mem hk)
  have hla := hlk _ (looks_a ⟨by omega, hops.2⟩)
  obtain ⟨ka, hka⟩ : ∃ ka : Nat, (s.at k).a = ka := ⟨(s.at k).a.toNat, by omega⟩
  have Hka : Hid ((s.at k).a.toNat = ka ∧ ka < s.cs.length) := ⟨by omega, by omega⟩
  have hc5 := hS5.each k hkp
  rw [beg_at hk] at hc5
  obtain ⟨vd5, vl5, hv5⟩ := hc5
  have hl5 := hv5.l1 rfl
  have hl0 : (intsV (s.at k).looks)[0]? = some (.int .i64 (ka : Int)) := by
    have h1 : 1 ≤ (s.at k).op ∧ (s.at k).op ≤ 5 := ⟨by omega, hops.2⟩
    have : (s.at k).op = 1 ∨ (s.at k).op = 2 ∨ (s.at k).op = 3 ∨ (s.at k).op = 4 ∨ (s.at k).op = 5 := by omega
    unfold Cel.looks looksL intsV
    rcases this with e | e | e | e | e <;> simp [e, hka]
  have hlp : 0 < (s.at k).looks.length := by
    have := (List.getElem?_eq_some_iff.1 hl0).1
    simpa [intsV] using this
  obtain ⟨gl, lc, hvl, _, _⟩ := World.ownsRow.form hl5 hlp
  subst hvl
  have c13 := hv5.blk.cell 13
  have cbc := hR5.c_.cell 0
  simp [celCells] at c13 cbc
  have cl0 := own_cell hl5 0 _ hl0
  have hlpi : (0 : Int) < ((s.at k).looks.length : Int) := by omega
  clear hS4 hbs4 hbc4 HK4 HH4 hbW4 HN4 hka hla hbd hbn hl0
  generalize (w4.alloc (.cells #[.slice none 0 0] 69)).alloc (.cells #[.slice none 0 0] 23) = w5 at *
  go_wp2_with fail
  have okb := beg_ok ok hk
  have hbr1 := fun N' w' (h1 : ShAt N' w' base sp lk ps (.slice (some ⟨gc, 0, none⟩) ps.length cc) rb rc (begM s k)) h2 h3 => hbr N' w' base sp lk ps _ rb rc (begM s k) ka h1 h2 h3 okb hfb (by rw [beg_len]; exact Hka.out.2) (by rw [beg_phi]; exact hf)
  have gx := bring_good f (begM s k) ka okb (by rw [beg_len]; exact Hka.out.2) (by rw [beg_phi]; exact hf)
  have fx := bring_fits okb hfb (by rw [beg_len]; exact Hka.out.2) (by rw [beg_phi]; exact hf)
  refine (look_walk (N := N) base H H bc bd bn sp ps[k] ka lk ps _ rb rc (begM s k) (bringM f (begM s k) ka) (.slice none 0 0) (.slice none 0 0) [] [] w5 hbr1 (fun j h => by rw [gx.keeps.busy j]; exact h) hS5 HN.out hR5 hz hs5 (by simp) (by simp)).mono ?_
  rintro e w6 ⟨rfl, ⟨vd1, vn1, hS6, hR6⟩, hK6, hb6, hh6⟩
  have Hh6 := Lib.hid hh6
  clear hh6
  go_upto_block 0 with fail
  obtain ⟨x, hx⟩ : ∃ x, bringM f (begM s k) ka = x := ⟨_, rfl⟩
  rw [hx] at hS6 hR6 gx fx ⊢
  have Hx := Lib.hid hx
  have Hbus : Hid (((begM s k).at k).busy = true) := by rw [beg_at hk]; exact hbusy
  have Hat : Hid (x.1.at k = (begM s k).at k) := gx.keeps.held k Hbus.out
  have Hxl : Hid (x.1.cs.length = s.cs.length) := gx.keeps.len.trans beg_len
  have Hphi : Hid (x.1.phi < f) := by
    show _ < _
    have h1 := gx.keeps.phi
    rw [beg_phi] at h1
    omega
  have HK6 : Hid (KeepN N w w6) := HK5.out.trans hK6
  have HH6 : Hid (Held k ps s w w6) := HH5.out.trans (fun j hj _ => Hh6.out j hj (by omega)) fun j _ hj h => by rw [beg_but.busy j hj]; exact h
  have Hbz : Hid (∀ j, j ≠ k → (s.at j).busy = true → (x.1.at j).busy = true) := fun j hj h => by rw [gx.keeps.busy j, beg_but.busy j hj]; exact h
  have hbW6 := hbW5.trans hb6
  have hs6 : H ≤ w6.heap.size := Nat.le_trans hs5 hb6.size
  simp only [List.nil_append] at hR6
  clear hx hK6 Hh6 hb6 hS5 hR5 hv5 hl5 c13 cbc cl0 hbr1 HK5 HH5 hbW5
  go_cut [8] (fun s8 wc => ∃ (y : Sh) (dl : List Dep) (nl : List Int) (vd vn : Value) (okB : Bool), s8 = .bool okB ∧ ShAt (Nrun N H bc bd bn vd vn) wc base sp lk ps (.slice (some ⟨gc, 0, none⟩) ps.length cc) rb rc y ∧ RunV wc H H bc bd bn sp ps[k] vd vn dl nl ∧ Hid (KeepN N w wc) ∧ Below base w wc ∧ Hid (RunP f s k y dl nl okB) ∧ Hid (Held k ps s w wc))
  case first =>
    have hc6 := hS6.each k hkp
    rw [Hat.out, beg_at hk] at hc6
    obtain ⟨vd6, vl6, hv6⟩ := hc6
    have hl6 : w6.ownsRow base 3 1 vl6 (s.at k).looks.length (intsV (s.at k).looks) := hv6.l1 rfl
    obtain ⟨gl6, lc6, hvl, _, _⟩ := World.ownsRow.form hl6 hlp
    subst hvl
    have c13 := hv6.blk.cell 13
    have c0 := hv6.blk.cell 0
    have cbc := hR6.c_.cell 0
    have cbn := hR6.n_.cell 0
    obtain ⟨gn, nc, hvn, _, _⟩ := hR6.on_.form (by simp)
    subst hvn
    have cn0 := own_cell hR6.on_ 0 (.int .i64 x.2.1) rfl
    simp [celCells] at c13 c0 cbc cbn
    have q1 : (0 : Int) < (1 : Int) := by omega
    by_cases he : x.2.2 = 0
    · have e0 : (x.2.2 == 0) = true := by simpa using he
      rw [e0]
      by_cases h5 : (s.at k).op = 5
      · have e4 : ((s.at k).op == 4) = false := by simp; omega
        have ell : (s.at k).looks.length = 1 := by unfold Cel.looks looksL; simp [h5]
        have ell1 : ¬ (1 : Int) < ((s.at k).looks.length : Int) := by omega
        have HR := Lib.hid (runM_five Hka.out.1 Hx.out he h5)
        have H5 := Lib.hid h5
        clear h5 ell e0
        go_wp2_with fail
        go_meet
        exact ⟨_, _, _, vd1, _, _, rfl, hS6, hR6, HK6.out, hbW6, ⟨Hat.out, Hxl.out, HR.out, ⟨fx.2, i64_0⟩, ⟨by simp, fun _ h => absurd H5.out h⟩, by simp, Hbz.out⟩, HH6.out⟩
      · have hb1 := hlk _ (looks_b (c := s.at k) ⟨by omega, by omega⟩)
        obtain ⟨kb, hkb⟩ : ∃ kb : Nat, (s.at k).b = kb := ⟨(s.at k).b.toNat, by omega⟩
        have Hkb : Hid ((s.at k).b.toNat = kb ∧ kb < x.1.cs.length) := ⟨by omega, by have := Hxl.out; omega⟩
        have hl1 : (intsV (s.at k).looks)[1]? = some (.int .i64 (kb : Int)) := by
          have : (s.at k).op = 1 ∨ (s.at k).op = 2 ∨ (s.at k).op = 3 ∨ (s.at k).op = 4 := by omega
          unfold Cel.looks looksL intsV
          rcases this with e | e | e | e <;> simp [e, hkb]
        have cl1 := own_cell hl6 1 _ hl1
        have hlen1 : (1 : Int) < ((s.at k).looks.length : Int) := by
          have := (List.getElem?_eq_some_iff.1 hl1).1
          simp [intsV] at this
          omega
        have Hkb2 := Lib.hid hkb
        clear hl1 hkb hb1
        by_cases h4 : (s.at k).op = 4
        · have e4 : ((s.at k).op == 4) = true := by simpa using h4
          by_cases hn0 : x.2.1 = 0
          · have hc1 := hlk _ (looks_c (c := s.at k) h4)
            obtain ⟨kc, hkc⟩ : ∃ kc : Nat, (s.at k).c = kc := ⟨(s.at k).c.toNat, by omega⟩
            have Hkc : Hid ((s.at k).c.toNat = kc ∧ kc < x.1.cs.length) := ⟨by omega, by have := Hxl.out; omega⟩
            have hl2 : (intsV (s.at k).looks)[2]? = some (.int .i64 (kc : Int)) := by
              unfold Cel.looks looksL intsV
              simp [h4, hkc]
            have cl2 := own_cell hl6 2 _ hl2
            have hlen2 : (2 : Int) < ((s.at k).looks.length : Int) := by
              have := (List.getElem?_eq_some_iff.1 hl2).1
              simp [intsV] at this
              omega
            have HR := Lib.hid (runM_two Hka.out.1 Hx.out he h5 (if_pos ⟨h4, hn0⟩) Hkc.out.1 (y := bringM f x.1 kc) rfl)
            have en0 : (x.2.1 == 0) = true := by simpa using hn0
            have en1 : (x.2.1 != 0) = false := by simpa using hn0
            clear h5 h4 hn0 he e0 hl2 hkc hc1
            go_wp2_with fail
            have hbr2 := fun N' w' (h1 : ShAt N' w' base sp lk ps (.slice (some ⟨gc, 0, none⟩) ps.length cc) rb rc x.1) h2 h3 => hbr N' w' base sp lk ps _ rb rc x.1 kc h1 h2 h3 gx.ok fx.1 Hkc.out.2 Hphi.out
            have gy := bring_good f x.1 kc gx.ok Hkc.out.2 Hphi.out
            have fy := bring_fits gx.ok fx.1 Hkc.out.2 Hphi.out
            refine (look_walk (N := N) base H H bc bd bn sp ps[k] kc lk ps _ rb rc x.1 (bringM f x.1 kc) vd1 (.slice (some ⟨gn, 0, none⟩) 1 nc) [⟨ka, x.2.1, x.2.2⟩] [x.2.1] w6 hbr2 (fun j h => by rw [gy.keeps.busy j]; exact h) hS6 HN.out hR6 hz hs6 (by simp) (by simp)).mono ?_
            rintro e w7 ⟨rfl, ⟨vd2, vn2, hS7, hR7⟩, hK7, hb7, hh7⟩
            have HP : Hid (RunP f s k (bringM f x.1 kc).1 [⟨ka, x.2.1, x.2.2⟩, ⟨kc, (bringM f x.1 kc).2.1, (bringM f x.1 kc).2.2⟩] [x.2.1, (bringM f x.1 kc).2.1] ((bringM f x.1 kc).2.2 == 0)) :=
              ⟨(gy.keeps.held k (by rw [Hat.out]; exact Hbus.out)).trans Hat.out, gy.keeps.len.trans Hxl.out, HR.out, ⟨fx.2, fy.2⟩, ⟨by simp, fun _ _ => by simp⟩, by simp, fun j hj h => by rw [gy.keeps.busy j]; exact Hbz.out j hj h⟩
            have HK7 : Hid (KeepN N w w7) := HK6.out.trans hK7
            have HH7 : Hid (Held k ps s w w7) := HH6.out.trans (fun j hj _ => hh7 j hj (by omega)) fun j _ hj h => Hbz.out j hj h
            have hbW7 := hbW6.trans hb7
            clear HR gy fy hbr2 hK7 hb7 hh7
            go_wp2_with fail
            go_meet
            exact ⟨_, _, _, vd2, vn2, _, rfl, hS7, hR7, HK7.out, hbW7, HP.out, HH7.out⟩
          · have HR := Lib.hid (runM_two Hka.out.1 Hx.out he h5 (if_neg (fun h => hn0 h.2)) Hkb.out.1 (y := bringM f x.1 kb) rfl)
            have en0 : (x.2.1 == 0) = false := by simpa using hn0
            have en1 : (x.2.1 != 0) = true := by simpa using hn0
            clear h5 h4 hn0 he e0
            go_wp2_with fail
            have hbr2 := fun N' w' (h1 : ShAt N' w' base sp lk ps (.slice (some ⟨gc, 0, none⟩) ps.length cc) rb rc x.1) h2 h3 => hbr N' w' base sp lk ps _ rb rc x.1 kb h1 h2 h3 gx.ok fx.1 Hkb.out.2 Hphi.out
            have gy := bring_good f x.1 kb gx.ok Hkb.out.2 Hphi.out
            have fy := bring_fits gx.ok fx.1 Hkb.out.2 Hphi.out
            refine (look_walk (N := N) base H H bc bd bn sp ps[k] kb lk ps _ rb rc x.1 (bringM f x.1 kb) vd1 (.slice (some ⟨gn, 0, none⟩) 1 nc) [⟨ka, x.2.1, x.2.2⟩] [x.2.1] w6 hbr2 (fun j h => by rw [gy.keeps.busy j]; exact h) hS6 HN.out hR6 hz hs6 (by simp) (by simp)).mono ?_
            rintro e w7 ⟨rfl, ⟨vd2, vn2, hS7, hR7⟩, hK7, hb7, hh7⟩
            have HP : Hid (RunP f s k (bringM f x.1 kb).1 [⟨ka, x.2.1, x.2.2⟩, ⟨kb, (bringM f x.1 kb).2.1, (bringM f x.1 kb).2.2⟩] [x.2.1, (bringM f x.1 kb).2.1] ((bringM f x.1 kb).2.2 == 0)) :=
              ⟨(gy.keeps.held k (by rw [Hat.out]; exact Hbus.out)).trans Hat.out, gy.keeps.len.trans Hxl.out, HR.out, ⟨fx.2, fy.2⟩, ⟨by simp, fun _ _ => by simp⟩, by simp, fun j hj h => by rw [gy.keeps.busy j]; exact Hbz.out j hj h⟩
            have HK7 : Hid (KeepN N w w7) := HK6.out.trans hK7
            have HH7 : Hid (Held k ps s w w7) := HH6.out.trans (fun j hj _ => hh7 j hj (by omega)) fun j _ hj h => Hbz.out j hj h
            have hbW7 := hbW6.trans hb7
            clear HR gy fy hbr2 hK7 hb7 hh7
            go_wp2_with fail
            go_meet
            exact ⟨_, _, _, vd2, vn2, _, rfl, hS7, hR7, HK7.out, hbW7, HP.out, HH7.out⟩
        · have e4 : ((s.at k).op == 4) = false := by simpa using h4
          have hlenN : 1 < (s.at k).looks.length := by omega
          have hlenD : decide (1 < (s.at k).looks.length) = true := by simpa using hlenN
          have hlenE : decide ((1 : Int) < ((s.at k).looks.length : Int)) = true := by simpa using hlen1
          have HR := Lib.hid (runM_two Hka.out.1 Hx.out he h5 (if_neg (fun h => h4 h.1)) Hkb.out.1 (y := bringM f x.1 kb) rfl)
          clear h5 h4 he e0
          go_wp2_with fail
          have hbr2 := fun N' w' (h1 : ShAt N' w' base sp lk ps (.slice (some ⟨gc, 0, none⟩) ps.length cc) rb rc x.1) h2 h3 => hbr N' w' base sp lk ps _ rb rc x.1 kb h1 h2 h3 gx.ok fx.1 Hkb.out.2 Hphi.out
          have gy := bring_good f x.1 kb gx.ok Hkb.out.2 Hphi.out
          have fy := bring_fits gx.ok fx.1 Hkb.out.2 Hphi.out
          refine (look_walk (N := N) base H H bc bd bn sp ps[k] kb lk ps _ rb rc x.1 (bringM f x.1 kb) vd1 (.slice (some ⟨gn, 0, none⟩) 1 nc) [⟨ka, x.2.1, x.2.2⟩] [x.2.1] w6 hbr2 (fun j h => by rw [gy.keeps.busy j]; exact h) hS6 HN.out hR6 hz hs6 (by simp) (by simp)).mono ?_
          rintro e w7 ⟨rfl, ⟨vd2, vn2, hS7, hR7⟩, hK7, hb7, hh7⟩
          have HP : Hid (RunP f s k (bringM f x.1 kb).1 [⟨ka, x.2.1, x.2.2⟩, ⟨kb, (bringM f x.1 kb).2.1, (bringM f x.1 kb).2.2⟩] [x.2.1, (bringM f x.1 kb).2.1] ((bringM f x.1 kb).2.2 == 0)) :=
            ⟨(gy.keeps.held k (by rw [Hat.out]; exact Hbus.out)).trans Hat.out, gy.keeps.len.trans Hxl.out, HR.out, ⟨fx.2, fy.2⟩, ⟨by simp, fun _ _ => by simp⟩, by simp, fun j hj h => by rw [gy.keeps.busy j]; exact Hbz.out j hj h⟩
          have HK7 : Hid (KeepN N w w7) := HK6.out.trans hK7
          have HH7 : Hid (Held k ps s w w7) := HH6.out.trans (fun j hj _ => hh7 j hj (by omega)) fun j _ hj h => Hbz.out j hj h
          have hbW7 := hbW6.trans hb7
          clear HR gy fy hbr2 hK7 hb7 hh7
          go_wp2_with fail
          go_meet
          exact ⟨_, _, _, vd2, vn2, _, rfl, hS7, hR7, HK7.out, hbW7, HP.out, HH7.out⟩
    · have e0 : (x.2.2 == 0) = false := by simpa using he
      rw [e0]
      have HR := Lib.hid (runM_err Hka.out.1 Hx.out he)
      clear he
      go_wp2_with fail
      go_meet
      exact ⟨_, _, _, vd1, _, _, rfl, hS6, hR6, HK6.out, hbW6, ⟨Hat.out, Hxl.out, HR.out, ⟨fx.2, i64_0⟩, ⟨by simp, fun h => by cases h⟩, by simp, Hbz.out⟩, HH6.out⟩
  case rest =>
    clear hS6 hR6 gx fx hbW6 hs6 Hx Hat Hxl Hphi HK6 HH6 Hbz hlk hlp hlpi hfb hr1 hr2 hlow okb
    obtain ⟨y, dl, nl, vd, vn, okB, rfl, hS7, hR7, HK7, hbW7, HP, HH7⟩ := hcut
    have hc7 := hS7.each k hkp
    rw [HP.out.at_, beg_at hk] at hc7
    obtain ⟨vo, vl, hv7⟩ := hc7
    obtain ⟨Ad, cd, hvd⟩ := own_form hR7.od
    subst hvd
    have cbc := hR7.c_.cell 0
    have cbd := hR7.d_.cell 0
    have c4 := hv7.blk.cell 4
    have c5 := hv7.blk.cell 5
    have c6 := hv7.blk.cell 6
    have c7 := hv7.blk.cell 7
    have f4 := hv7.blk.frozen 4
    have f5 := hv7.blk.frozen 5
    have f6 := hv7.blk.frozen 6
    have f7 := hv7.blk.frozen 7
    simp [celCells] at cbc cbd c4 c5 c6 c7
    have hn1 : ps[k] ≠ bc := blk_ne hv7.blk hR7.c_ (by decide)
    have hn2 : ps[k] ≠ bd := blk_ne hv7.blk hR7.d_ (by decide)
    go_upto_region 17 with fail
    go_region_held3 (fun w' => w'.cell? ⟨bc, 0, none⟩ = some (.pointer (some ⟨ps[k], 0, none⟩)) ∧ w'.cell? ⟨bd, 0, none⟩ = some (.slice Ad dl.length cd)) (first | (go_keep; done)) (fail)
    have hst := run_store (base := base) (.slice Ad dl.length cd) dl hv7.blk hp0
    have Fin := Lib.hid fun wF o => run_fin (wF := wF) hkp hk HN.out hz hS7 hR7 hv7 HK7.out hbW7 HP.out HH7.out o
    have FP := Lib.hid HP.out.fin
    clear cbd c4 c5 c6 c7 f4 f5 f6 f7 HK7 HH7
    generalize (((((wc.setCell ⟨ps[k], 4, none⟩ (.bool true)).setCell ⟨ps[k], 7, none⟩ (.slice Ad dl.length cd)).setCell ⟨ps[k], 5, none⟩ (.int .i64 0)).setCell ⟨ps[k], 6, none⟩ (.int .i64 7)).drew) = wA at hst ⊢
    cases okB with
    | false =>
      go_wp2_with fail
      go_end0
      exact ⟨rfl, Fin.out wA (0, 7) hst FP.out⟩
    | true =>
      have hln := HP.out.has.1
      have hln2 := HP.out.has.2 rfl
      obtain ⟨gn, nc, hvn, _, _⟩ := hR7.on_.form (by omega)
      subst hvn
      have hoA := hst.2.1
      have hnb : gn ≠ ps[k] := fun e => own_ne hR7.on_ hv7.blk (by decide) (by rw [← e]; rfl)
      have hlt7 := (hR7.on_.lt gn rfl).2
      have g0 : wA.drew.cell? ⟨gn, 0, none⟩ = some (.int .i64 (nl.getD 0 0)) := (World.cell?_of_block (a := ⟨gn, 0, none⟩) (hoA gn hlt7 hnb)).trans (own_cell hR7.on_ 0 _ (by
        rw [List.getD_eq_getElem?_getD]; unfold intsV; rw [List.getElem?_map, List.getElem?_eq_getElem (by omega)]; rfl))
      have g1 : (s.at k).op ≠ 5 → wA.drew.cell? ⟨gn, 1, none⟩ = some (.int .i64 (nl.getD 1 0)) := fun h5 => (World.cell?_of_block (a := ⟨gn, 1, none⟩) (hoA gn hlt7 hnb)).trans (own_cell hR7.on_ 1 _ (by
        have := hln2 h5
        rw [List.getD_eq_getElem?_getD]; unfold intsV; rw [List.getElem?_map, List.getElem?_eq_getElem (by omega)]; rfl))
      have kbc : wA.cell? ⟨bc, 0, none⟩ = some (.pointer (some ⟨ps[k], 0, none⟩)) := (World.cell?_of_block (a := ⟨bc, 0, none⟩) (hoA bc hR7.c_.lt (Ne.symm hn1))).trans cbc
      have hbnn : bn ≠ ps[k] := blk_ne hR7.n_ hv7.blk (by decide)
      have cbn := hR7.n_.cell 0
      simp at cbn
      have kbn : wA.cell? ⟨bn, 0, none⟩ = some (.slice (some ⟨gn, 0, none⟩) nl.length nc) := (World.cell?_of_block (a := ⟨bn, 0, none⟩) (hoA bn hR7.n_.lt hbnn)).trans cbn
      have k0 := hst.1.cell 0
      have k5 := hst.1.cell 5
      have k6 := hst.1.cell 6
      have j5 := hst.1.frozen 5
      have j6 := hst.1.frozen 6
      simp [celCells] at k0 k5 k6
      have Hrk := Lib.hid (reckon_walk (s.at k).op (nl.getD 0 0) (nl.getD 1 0) gn 0 nl.length nc wA.drew ⟨by omega, hops.2⟩ g0 g1 hln2 hln HP.out.num.1 HP.out.num.2)
      have Hst := Lib.hid hst
      have hn3 : ps[k] ≠ bn := Ne.symm hbnn
      clear g0 g1 hln2 hst hoA hln hlt7 hS7 hR7 hv7 hbW7 HP cbn cbc hbnn
      go_upto_region 19 with fail
      go_region_held3 (fun w' => w'.cell? ⟨bc, 0, none⟩ = some (.pointer (some ⟨ps[k], 0, none⟩)) ∧ w'.cell? ⟨ps[k], 0, none⟩ = some (.int .i64 (s.at k).op) ∧ w'.cell? ⟨bn, 0, none⟩ = some (.slice (some ⟨gn, 0, none⟩) nl.length nc)) (first | (go_keep; done) | (refine ⟨?_, ?_, ?_⟩ <;> first | (go_keep; done) | exact run_cell0 k0 (by decide) | exact run_cell0 (run_cell0 k0 (by decide)) (by decide))) ((go_at_call 63; refine (show Calls _ _ _ (World.drew wA) _ from Hrk.out).mono ?_; rintro e w2 ⟨rfl, nd, rfl⟩))
      go_wp2_with fail
      go_end0
      have hl := run_last (c := { s.at k with runs := (s.at k).runs + 1, once := true }) (vd := .slice Ad dl.length cd) (vl := vl) (dl := dl) (reckonM (s.at k).op (nl[0]?.getD 0) (nl[1]?.getD 0)) (1 + nd) Hst.out hp0
      exact ⟨rfl, Fin.out _ (reckonM (s.at k).op (nl[0]?.getD 0) (nl[1]?.getD 0), 0) hl (by have h1 := FP.out; simpa [List.getD_eq_getElem?_getD] using h1)⟩
end Go.Proofs.YtnadldoebfmgmaaDoor.q
