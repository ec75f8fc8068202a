/-
  THE WALK of (*query.Sheet).run, whose looks may be broken off. (Printed by wip/mkrunA.py.)
-/
import Derived.Test.YtnadldoebfmgmaaDoorAK
import Derived.Deep.CutBlock
namespace Go.Proofs.YtnadldoebfmgmaaDoor.q
open Go.RowKit

/-- a bringing's contract, for sheets of which less than f cells are not busy, where the runs are counted -/
def BrA (f : Nat) : Prop := ∀ (N : Nat → Prop) (w : World) (base sp : Nat) (lk : Int) (ps : List Nat) (vc : Value) (rb rc : Nat) (s : Sh) (k : Nat), ShAt N w base sp lk ps vc rb rc s → (∀ j, N j → j < w.heap.size) → base ≤ w.heap.size → s.Ok → s.FitA → k < s.cs.length → s.nb < f →
  Calls Tryd.prog 34 #[.pointer (some ⟨sp, 0, none⟩), .int .i64 k] w fun e w' => EndA e ∧ AftA N w.heap.size w w' base sp lk ps vc rb rc s
theorem beg_rel {s : Sh} {k : Nat} (hk : k < s.cs.length) (hm : 0 < s.most) : RelA s (begM s k) := by
  have hat := beg_at hk
  have hne : ∀ j, k ≠ j → (begM s k).at j = s.at j := fun j hj => upd_at_ne (s := s) hj
  refine ⟨beg_len, rfl, fun j => ?_, fun j => ?_, fun j h => ?_, fun j h => ?_, fun h => beg_ok h hk, fun h => ⟨by rw [beg_len]; exact h.small, by show 0 ≤ s.most - 1; omega, beg_num h.num, fun j => ?_⟩⟩
  all_goals by_cases hj : k = j
  · subst hj; rw [hat]; exact ⟨rfl, rfl, rfl, rfl⟩
  · rw [hne j hj]; exact ⟨rfl, rfl, rfl, rfl⟩
  · subst hj; rw [hat]
  · rw [hne j hj]
  · subst hj; rw [hat]
  · rw [hne j hj]; exact h
  · subst hj; rw [hat]
  · rw [hne j hj]
  · subst hj
    rw [hat]
    have := h.runs k
    exact ⟨by show 0 ≤ (s.at k).runs + 1; omega, by show (s.at k).runs + 1 + (s.most - 1) ≤ _; omega⟩
  · rw [hne j hj]
    have := h.runs j
    exact ⟨this.1, by show (s.at j).runs + (s.most - 1) ≤ _; omega⟩
theorem end_rel {s : Sh} {k : Nat} {deps : List Dep} {o : Int × Int} (hk : k < s.cs.length) (ho : (s.at k).op ≠ 0) (hd : ∀ d ∈ deps, d.c < s.cs.length) (he : o.2 = 0 ∨ o.2 = 7) (hn : I64 o.1) : RelA s (endM s k deps o) := by
  have hat : (endM s k deps o).at k = { s.at k with ran := true, deps := deps, n := o.1, e := o.2 } := upd_at_same hk
  have hne : ∀ j, k ≠ j → (endM s k deps o).at j = s.at j := fun j hj => upd_at_ne (s := s) hj
  refine ⟨upd_len, rfl, fun j => ?_, fun j => ?_, fun j h => ?_, fun j h => ?_, fun h => h.upd (fun _ => ⟨rfl, rfl, rfl, rfl⟩) hd he, fun h => ⟨by show (s.upd k _).cs.length ≤ _; rw [upd_len]; exact h.small, h.pos, upd_num h.num hn, fun j => ?_⟩⟩
  all_goals by_cases hj : k = j
  · subst hj; rw [hat]; exact ⟨rfl, rfl, rfl, rfl⟩
  · rw [hne j hj]; exact ⟨rfl, rfl, rfl, rfl⟩
  · subst hj; rw [hat]
  · rw [hne j hj]
  · subst hj; rw [hat]; exact h
  · rw [hne j hj]; exact h
  · subst hj; exact absurd h ho
  · rw [hne j hj]
  · subst hj; rw [hat]; exact h.runs k
  · rw [hne j hj]; exact h.runs j
/-- what a run has come to when it has looked -/
structure RunA (s : Sh) (k : Nat) (y : Sh) (dl : List Dep) (nl : List Int) (okB : Bool) : Prop where
  rel : RelA s y
  once : (y.at k).once = true
  num : I64 (nl.getD 0 0) ∧ I64 (nl.getD 1 0)
  has : 1 ≤ nl.length ∧ (okB = true → (s.at k).op ≠ 5 → 2 ≤ nl.length)
  small : dl.length ≤ 2 ∧ nl.length ≤ 2
  there : ∀ d ∈ dl, d.c < s.cs.length
/-- whatever was reckoned: the sheet as it is left -/
theorem run_finA {N : Nat → Prop} {w wc wF : World} {H bc bd bn base sp rb rc : Nat} {lk : Int} {ps : List Nat} {vc vd vn vo vl : Value} {s y : Sh} {k : Nat} {dl : List Dep} {nl : List Int} {okB : Bool} (hkp : k < ps.length) (hk : k < s.cs.length) (hop : (s.at k).op ≠ 0) (HN : ∀ j, N j → j < H) (hz : base ≤ H) (hHw : H ≤ wc.heap.size)
    (hS7 : ShAt (Nrun N H bc bd bn vd vn) wc base sp lk ps vc rb rc y) (hR7 : RunV wc H H bc bd bn sp ps[k] vd vn dl nl) (hv7 : CelV (Nrun N H bc bd bn vd vn) wc base ps[k] (y.at k) vo vl) (HK7 : KeepN N w wc) (hbW7 : Below base w wc) (HP : RunA s k y dl nl okB) (HH7 : LedB H w wc) (o : Int × Int) (he : o.2 = 0 ∨ o.2 = 7) (hn : I64 o.1)
    (h : Blk wF ps[k] 76 (celCells { y.at k with ran := true, deps := dl, n := o.1, e := o.2 } vd vl) ∧ Oth1 ps[k] wc wF ∧ Below base wc wF) :
    AftA N H w wF base sp lk ps vc rb rc s := by
  obtain ⟨hB, ho, hb⟩ := h
  have hS8 : ShAt N wc base sp lk ps vc rb rc y := hS7.other (fun _ _ _ => rfl) fun j hj => .inl (.inl hj)
  have hp0 := hv7.base_
  have hnp : ∀ j, N j → j ≠ ps[k] := fun j hj e => by
    obtain ⟨a1, a2, a3⟩ := hS8.each k hkp
    exact a3.np (e ▸ hj)
  have hky : k < y.cs.length := by rw [HP.rel.len]; exact hk
  refine ⟨endM y k dl o, hS8.turn hkp (f := fun c => { c with ran := true, deps := dl, n := o.1, e := o.2 }) ho ?_ rfl, fun j hj => ?_, hbW7.trans hb, HH7.trans (LedB.oth ho hHw hv7.blk), HP.rel.trans (end_rel hky (by rw [(HP.rel.rule k).1]; exact hop) (fun d hd => by rw [HP.rel.len]; exact HP.there d hd) he hn)⟩
  · refine ⟨vd, vl, hB, ?_, fun e => ?_, hv7.l0, hp0, fun h => hnp _ h rfl, fun j hj hn => ?_, fun j hj hn => hv7.nl j hj (.inl hn)⟩
    · exact own_mono (own_of_block hR7.od fun j hj => ho j (hR7.od.lt j hj).2 fun e => own_ne hR7.od hv7.blk (by decide) (by rw [hj, e])) hz
    · exact own_of_block (hv7.l1 e) fun j hj => ho j ((hv7.l1 e).lt j hj).2 fun e' => own_ne (hv7.l1 e) hv7.blk (by decide) (by rw [hj, e'])
    · have := (hR7.od.lt j hj).1
      have := HN j hn
      omega
  · have h1 := HN j hj
    exact (ho j (by have := hR7.s_.lt; omega) (hnp j hj)).trans (HK7 j hj)

set_option maxHeartbeats 2000000 in
set_option maxRecDepth 100000 in
/-- no more runs may be done -/
theorem run_none {N : Nat → Prop} (w : World) (base sp : Nat) (lk : Int) (ps : List Nat) (vc : Value) (rb rc : Nat) (s : Sh) (k : Nat) (hS : ShAt N w base sp lk ps vc rb rc s) (hN : ∀ j, N j → j < w.heap.size) (hz : base ≤ w.heap.size) (hm : s.most = 0) :
    Calls Tryd.prog 47 #[.pointer (some ⟨sp, 0, none⟩), .int .i64 k] w fun e w' => e = .panicked enoughC ∧ AftA N w.heap.size w w' base sp lk ps vc rb rc s := by
  have hb0 : Below w.heap.size w (w.alloc (.cells #[.pointer (some ⟨sp, 0, none⟩)] 24)) := (Below.refl _ _).alloc (Nat.le_refl _) _
  have HA : Hid (AftA N w.heap.size w (w.alloc (.cells #[.pointer (some ⟨sp, 0, none⟩)] 24)) base sp lk ps vc rb rc s) := ⟨s, hS.below hb0, KeepN.below hN hb0, hb0.mono hz, LedB.below hb0 (Nat.le_refl _), RelA.refl s⟩
  have m5 : (w.alloc (.cells #[.pointer (some ⟨sp, 0, none⟩)] 24)).cell? ⟨sp, 5, none⟩ = some (.int .i64 0) := by
    have := (hS.below hb0).sheet.cell 5
    simp [hm] at this
    exact this
  clear hS hN hz hm hb0
  go_enter Tryd.func47, Tryd.ntmps47
  go_wp2_with fail
  exact ⟨rfl, rfl, HA.out⟩

set_option maxHeartbeats 8000000 in
set_option maxRecDepth 100000 in
theorem run_someA {f : Nat} (hbr : BrA f) {N : Nat → Prop} (w : World) (base sp : Nat) (lk : Int) (ps : List Nat) (vc : Value) (rb rc : Nat) (s : Sh) (k : Nat) (hS : ShAt N w base sp lk ps vc rb rc s) (hN : ∀ j, N j → j < w.heap.size) (hz : base ≤ w.heap.size)
    (ok : s.Ok) (hfit : s.FitA) (hpos : 0 < s.most) (hk : k < s.cs.length) (hop : (s.at k).op ≠ 0) (hf : s.nb < f) :
    Calls Tryd.prog 47 #[.pointer (some ⟨sp, 0, none⟩), .int .i64 k] w fun e w' => (e = .returned (.tuple #[]) ∨ e = .panicked enoughC) ∧ AftA N w.heap.size w w' base sp lk ps vc rb rc s := by
  have hlen := hS.len
  have Hlen := Lib.hid hlen
  have hkp : k < ps.length := by omega
  have hpsm : ps.length ≤ 1048576 := by have := hfit.small; omega
  clear hlen
  obtain ⟨gc, cc, rfl, hgc, _⟩ := hS.cells.form (by omega)
  have hrk := hfit.runs k
  have hr1 : 0 ≤ (s.at k).runs + 1 := by omega
  have hr2 : (s.at k).runs + 1 ≤ 9223372036854775807 := by omega
  have hops := ok.ops _ (at_mem hk)
  have hmx : s.most ≤ 9223372036854775807 := by omega
  have Hmw := Lib.hid (show IntKind.i64.wrap (s.most - 1) = s.most - 1 from IntWalk.i64_in _ (by omega))
  have hmz : (s.most == 0) = false := by simp; omega
  have hbr0 := Lib.hid hbr
  have HRel := Lib.hid (beg_rel hk hpos)
  clear hrk
  have i1 : (0 : Int) ≤ (k : Int) := by omega
  have i2 : (k : Int) < (ps.length : Int) := by omega
  have hbsp := hS.base_
  have hbrb : base ≤ rb := (hS.runs.lt rb rfl).1
  have hp0 : base ≤ ps[k] := by obtain ⟨vd, vl, hv⟩ := hS.each k hkp; exact hv.base_
  go_enter Tryd.func47, Tryd.ntmps47
  go_upto_region 1 with fail
  -- the box of s
  have hS0 : ShAt (fun j => N j ∨ j = w.heap.size) (w.alloc (.cells #[.pointer (some ⟨sp, 0, none⟩)] 24)) base sp lk ps (.slice (some ⟨gc, 0, none⟩) ps.length cc) rb rc s :=
    hS.other (fun j hj _ => Below.heap_alloc w _ j hj) fun j hj => hj.imp id fun e => by omega
  have hbs : Blk (w.alloc (.cells #[.pointer (some ⟨sp, 0, none⟩)] 24)) w.heap.size 24 #[.pointer (some ⟨sp, 0, none⟩)] := Blk.new _ _ _
  have hb0 : Below base w (w.alloc (.cells #[.pointer (some ⟨sp, 0, none⟩)] 24)) := (Below.refl _ _).alloc hz _
  have HK0 : Hid (KeepN N w (w.alloc (.cells #[.pointer (some ⟨sp, 0, none⟩)] 24))) := KeepN.below hN ((Below.refl _ _).alloc (Nat.le_refl _) _)
  have HH0 : Hid (LedB w.heap.size w (w.alloc (.cells #[.pointer (some ⟨sp, 0, none⟩)] 24))) := LedB.below ((Below.refl _ _).alloc (Nat.le_refl _) _) (Nat.le_refl _)
  have hs0 : w.heap.size < (w.alloc (.cells #[.pointer (some ⟨sp, 0, none⟩)] 24)).heap.size := by simp
  obtain ⟨H, hH⟩ : ∃ H, H = w.heap.size := ⟨_, rfl⟩
  have HN : Hid (∀ j, N j → j < H) := by rw [hH]; exact hN
  have HhH := Lib.hid hH
  rw [← hH] at hS0 hbs hs0 hz HH0 ⊢
  clear hN hS hH
  generalize w.alloc (.cells #[.pointer (some ⟨sp, 0, none⟩)] 24) = w0 at *
  have cs := hbs.cell 0
  have m5 := hS0.sheet.cell 5
  have m3 := hS0.sheet.cell 3
  have f5 := hS0.sheet.frozen 5
  simp at cs m5 m3
  have hne : H ≠ sp := blk_ne hbs hS0.sheet (by decide)
  have hS1 : ShAt (fun j => N j ∨ j = H) (w0.setCell ⟨sp, 5, none⟩ (.int .i64 (s.most - 1))) base sp lk ps (.slice (some ⟨gc, 0, none⟩) ps.length cc) rb rc (mostM s) := hS0.setSheet (j := 5) (u := .int .i64 (s.most - 1)) (lk' := lk) (sets' := s.sets) (most' := s.most - 1) rfl
  have hb1 : Below base w (w0.setCell ⟨sp, 5, none⟩ (.int .i64 (s.most - 1))) := hb0.setCell (p := ⟨sp, 5, none⟩) hbsp _
  have HK1 : Hid (KeepN N w (w0.setCell ⟨sp, 5, none⟩ (.int .i64 (s.most - 1)))) := HK0.out.trans (KeepN.setCell (p := ⟨sp, 5, none⟩) (fun h => hS0.nsp (.inl h)) _)
  have HH1 : Hid (LedB H w (w0.setCell ⟨sp, 5, none⟩ (.int .i64 (s.most - 1)))) := HH0.out.trans (LedB.set (a := ⟨sp, 5, none⟩) hS0.sheet (by decide) _)
  have hbs1 := hbs.far (p := ⟨sp, 5, none⟩) hne (.int .i64 (s.most - 1))
  have hs1 : H < (w0.setCell ⟨sp, 5, none⟩ (.int .i64 (s.most - 1))).heap.size := by simpa using hs0
  have cs1 := hbs1.cell 0
  have n3 := hS1.sheet.cell 3
  simp at cs1 n3
  have mw := Hmw.out
  go_wp2_with fail
  clear mw hmz Hmw cs m5 m3 f5 hne hS0 hb0 HK0 HH0 hbs hs0 cs1 n3
  generalize w0.setCell ⟨sp, 5, none⟩ (.int .i64 (s.most - 1)) = w1 at *
  have cr : w1.cell? ⟨rb, k, none⟩ = some (.int .i64 (s.at k).runs) := own_cell hS1.runs k _ (by
    have e2 : s.at k = s.cs[k] := by unfold Sh.at; rw [List.getD_eq_getElem?_getD, List.getElem?_eq_getElem hk]; rfl
    show (s.cs.map _)[k]? = _
    rw [List.getElem?_map, List.getElem?_eq_getElem hk, e2]; rfl)
  refine (add_walk ⟨rb, k, none⟩ (s.at k).runs _ cr (hS1.runs.frozenAt k) (by omega) (by omega)).mono ?_
  rintro e w' ⟨rfl, rfl⟩
  have hS2 : ShAt (fun j => N j ∨ j = H) (w1.setCell ⟨rb, k, none⟩ (.int .i64 ((s.at k).runs + 1))) base sp lk ps (.slice (some ⟨gc, 0, none⟩) ps.length cc) rb rc (runsM s k) := (hS1.setRun hkp hbrb).1
  have hb2' : Below base w1 (w1.setCell ⟨rb, k, none⟩ (.int .i64 ((s.at k).runs + 1))) := (hS1.setRun hkp hbrb).2
  have hb2 : Below base w (w1.setCell ⟨rb, k, none⟩ (.int .i64 ((s.at k).runs + 1))) := hb1.trans hb2'
  have HK2 : Hid (KeepN N w (w1.setCell ⟨rb, k, none⟩ (.int .i64 ((s.at k).runs + 1)))) := HK1.out.trans (KeepN.setCell (p := ⟨rb, k, none⟩) (fun h => hS1.nr (.inl h)) _)
  have HH2 : Hid (LedB H w (w1.setCell ⟨rb, k, none⟩ (.int .i64 ((s.at k).runs + 1)))) := HH1.out.trans (LedB.set_row hS1.runs rfl (by decide) _)
  have hbs2 : Blk (w1.setCell ⟨rb, k, none⟩ (.int .i64 ((s.at k).runs + 1))) H 24 #[.pointer (some ⟨sp, 0, none⟩)] := hbs1.far (p := ⟨rb, k, none⟩) (fun e => own_ne hS1.runs hbs1 (by decide) (by rw [e]; rfl)) _
  have hs2 : H < (w1.setCell ⟨rb, k, none⟩ (.int .i64 ((s.at k).runs + 1))).heap.size := by simpa using hs1
  clear cr hb2' hb1 HK1 HH1 hbs1 hs1 hS1
  generalize w1.setCell ⟨rb, k, none⟩ (.int .i64 ((s.at k).runs + 1)) = w2 at *
  have cs := hbs2.cell 0
  have m1 := hS2.sheet.cell 1
  have m2 := hS2.sheet.cell 2
  have cg : w2.cell? ⟨gc, k, none⟩ = some (.pointer (some ⟨ps[k], 0, none⟩)) := own_cell hS2.cells k _ (by rw [List.getElem?_map, List.getElem?_eq_getElem hkp]; rfl)
  simp at cs m1 m2
  go_wp2_with fail
  -- the box of c
  have hS3 : ShAt (fun j => (N j ∨ j = H) ∨ j = w2.heap.size) (w2.alloc (.cells #[.pointer (some ⟨ps[k], 0, none⟩)] 77)) base sp lk ps (.slice (some ⟨gc, 0, none⟩) ps.length cc) rb rc (runsM s k) :=
    hS2.other (fun j hj _ => Below.heap_alloc w2 _ j hj) fun j hj => hj.imp id fun e => by omega
  have hbc : Blk (w2.alloc (.cells #[.pointer (some ⟨ps[k], 0, none⟩)] 77)) w2.heap.size 77 #[.pointer (some ⟨ps[k], 0, none⟩)] := Blk.new _ _ _
  have hbs3 := hbs2.alloc (.cells #[.pointer (some ⟨ps[k], 0, none⟩)] 77)
  have hb3 : Below base w (w2.alloc (.cells #[.pointer (some ⟨ps[k], 0, none⟩)] 77)) := hb2.alloc (by omega) _
  have HK3 : Hid (KeepN N w (w2.alloc (.cells #[.pointer (some ⟨ps[k], 0, none⟩)] 77))) := HK2.out.trans fun j hj => Below.heap_alloc w2 _ j (by have := HN.out j hj; omega)
  have HH3 : Hid (LedB H w (w2.alloc (.cells #[.pointer (some ⟨ps[k], 0, none⟩)] 77))) := HH2.out.trans (LedB.below ((Below.refl _ _).alloc (Nat.le_refl _) _) (by omega))
  have hs3 : w2.heap.size < (w2.alloc (.cells #[.pointer (some ⟨ps[k], 0, none⟩)] 77)).heap.size := by simp
  obtain ⟨bc, hbcn⟩ : ∃ bc, bc = w2.heap.size := ⟨_, rfl⟩
  rw [← hbcn] at hS3 hbc hs3 hs2 ⊢
  clear hS2 hb2 HK2 HH2 hbs2 cs m1 m2 cg hbcn
  generalize w2.alloc (.cells #[.pointer (some ⟨ps[k], 0, none⟩)] 77) = w3 at *
  have hC3 := hS3.each k hkp
  have cc0 := hbc.cell 0
  simp at cc0
  have hnbc : bc ≠ ps[k] := by
    obtain ⟨vd, vl, hv⟩ := hC3
    exact blk_ne hbc hv.blk (by decide)
  rw [runs_at hk] at hC3
  have hN3 : ∀ j, ((N j ∨ j = H) ∨ j = bc) → j < w3.heap.size := fun j hj => by
    rcases hj with (hj | hj) | hj
    · have := HN.out j hj; omega
    · omega
    · omega
  have HN3 := Lib.hid hN3
  clear hN3
  refine (once_walk base ps[k] bc { s.at k with runs := (s.at k).runs + 1 } w3 hops cc0 hnbc hC3 HN3.out (by omega)).mono ?_
  rintro e w4 ⟨rfl, hC4, ho4, hb4⟩
  have hz34 := hb4.size
  have hS4 : ShAt (fun j => (N j ∨ j = H) ∨ j = bc) w4 base sp lk ps (.slice (some ⟨gc, 0, none⟩) ps.length cc) rb rc (begM s k) := by
    rw [← beg_eq]
    exact hS3.turn hkp (f := fun c => { c with once := true }) ho4 (by rw [runs_at hk]; exact hC4) rfl
  have hbp : ∀ j, ((N j ∨ j = H) ∨ j = bc) → j ≠ ps[k] := fun j hj e => by
    obtain ⟨vd, vl, hv⟩ := hC3
    exact hv.np (e ▸ hj)
  have hbs4 : Blk w4 H 24 #[.pointer (some ⟨sp, 0, none⟩)] := (ho4 H hbs3.lt (hbp H (.inl (.inr rfl)))).trans hbs3
  have hbc4 : Blk w4 bc 77 #[.pointer (some ⟨ps[k], 0, none⟩)] := (ho4 bc hbc.lt (hbp bc (.inr rfl))).trans hbc
  have HK4 : Hid (KeepN N w w4) := HK3.out.trans fun j hj => ho4 j (HN3.out j (.inl (.inl hj))) (hbp j (.inl (.inl hj)))
  have HH4 : Hid (LedB H w w4) := by
    obtain ⟨vd, vl, hv⟩ := hS3.each k hkp
    exact HH3.out.trans (LedB.oth ho4 (by omega) hv.blk)
  have hbW4 := hb3.trans hb4
  have HN4 : Hid (∀ j, ((N j ∨ j = H) ∨ j = bc) → j < w4.heap.size) := fun j hj => Nat.lt_of_lt_of_le (HN3.out j hj) hz34
  clear hS3 hC3 hC4 ho4 hb3 hb4 HK3 HH3 hbs3 hbc cc0 hnbc hbp HN3
  go_upto_region 10 with fail
  have hS5 : ShAt (Nrun N H bc w4.heap.size (w4.heap.size + 1) (.slice none 0 0) (.slice none 0 0)) ((w4.alloc (.cells #[.slice none 0 0] 69)).alloc (.cells #[.slice none 0 0] 23)) base sp lk ps (.slice (some ⟨gc, 0, none⟩) ps.length cc) rb rc (begM s k) := by
    refine hS4.other (fun j hj _ => (Below.heap_alloc _ _ j (by simp; omega)).trans (Below.heap_alloc _ _ j hj)) fun j hj => ?_
    rcases hj with h | h | h | h | h | h | h
    · exact .inl (.inl (.inl h))
    · exact .inl (.inl (.inr h))
    · exact .inl (.inr h)
    · exact .inr (by omega)
    · exact .inr (by omega)
    · simp [Value.ownBlock] at h
    · simp [Value.ownBlock] at h
  have hR5 : RunV ((w4.alloc (.cells #[.slice none 0 0] 69)).alloc (.cells #[.slice none 0 0] 23)) H H bc w4.heap.size (w4.heap.size + 1) sp ps[k] (.slice none 0 0) (.slice none 0 0) [] [] :=
    ⟨(hbs4.alloc _).alloc _, (hbc4.alloc _).alloc _, (Blk.new _ _ _).alloc _, blk_new1 _ _ _ _, World.ownsRow_nil _ _ _ _, World.ownsRow_nil _ _ _ _, Nat.le_refl _, by omega, by omega, by omega⟩
  have hbW5 : Below base w ((w4.alloc (.cells #[.slice none 0 0] 69)).alloc (.cells #[.slice none 0 0] 23)) := (hbW4.alloc (by omega) _).alloc (by simp; omega) _
  have HK5 : Hid (KeepN N w ((w4.alloc (.cells #[.slice none 0 0] 69)).alloc (.cells #[.slice none 0 0] 23))) := HK4.out.trans fun j hj => by
    have h1 := HN4.out j (.inl (.inl hj))
    exact (Below.heap_alloc _ _ j (by simp; omega)).trans (Below.heap_alloc _ _ j h1)
  have HH5 : Hid (LedB H w ((w4.alloc (.cells #[.slice none 0 0] 69)).alloc (.cells #[.slice none 0 0] 23))) := HH4.out.trans (LedB.below (((Below.refl _ _).alloc (Nat.le_refl _) _).alloc (by simp) _) (by omega))
  have hs5 : H ≤ ((w4.alloc (.cells #[.slice none 0 0] 69)).alloc (.cells #[.slice none 0 0] 23)).heap.size := by simp; omega
  obtain ⟨bd, hbd⟩ : ∃ bd, bd = w4.heap.size := ⟨_, rfl⟩
  obtain ⟨bn, hbn⟩ : ∃ bn, bn = w4.heap.size + 1 := ⟨_, rfl⟩
  rw [← hbn] at hS5 hR5 ⊢
  rw [← hbd] at hS5 hR5 ⊢
  have hlk := ok.looks _ (at_mem hk)
  have hla := hlk _ (looks_a ⟨by omega, hops.2⟩)
  obtain ⟨ka, hka⟩ : ∃ ka : Nat, (s.at k).a = ka := ⟨(s.at k).a.toNat, by omega⟩
  have Hka : Hid ((s.at k).a.toNat = ka ∧ ka < s.cs.length) := ⟨by omega, by omega⟩
  have hc5 := hS5.each k hkp
  rw [beg_at hk] at hc5
  obtain ⟨vd5, vl5, hv5⟩ := hc5
  have hl5 := hv5.l1 rfl
  have hl0 : (intsV (s.at k).looks)[0]? = some (.int .i64 (ka : Int)) := by
    have h1 : 1 ≤ (s.at k).op ∧ (s.at k).op ≤ 5 := ⟨by omega, hops.2⟩
    have : (s.at k).op = 1 ∨ (s.at k).op = 2 ∨ (s.at k).op = 3 ∨ (s.at k).op = 4 ∨ (s.at k).op = 5 := by omega
    unfold Cel.looks looksL intsV
    rcases this with e | e | e | e | e <;> simp [e, hka]
  have hlp : 0 < (s.at k).looks.length := by
    have := (List.getElem?_eq_some_iff.1 hl0).1
    simpa [intsV] using this
  obtain ⟨gl, lc, hvl, _, _⟩ := World.ownsRow.form hl5 hlp
  subst hvl
  have c13 := hv5.blk.cell 13
  have cbc := hR5.c_.cell 0
  simp [celCells] at c13 cbc
  have cl0 := own_cell hl5 0 _ hl0
  have hlpi : (0 : Int) < ((s.at k).looks.length : Int) := by omega
  clear hS4 hbs4 hbc4 HK4 HH4 hbW4 HN4 hka hla hbd hbn hl0
  generalize (w4.alloc (.cells #[.slice none 0 0] 69)).alloc (.cells #[.slice none 0 0] 23) = w5 at *
  go_wp2_with fail
  have okb := beg_ok ok hk
  have fitb := HRel.out.fit hfit
  have hbr1 := fun N' w' (h1 : ShAt N' w' base sp lk ps (.slice (some ⟨gc, 0, none⟩) ps.length cc) rb rc (begM s k)) h2 h3 => hbr0.out N' w' base sp lk ps _ rb rc (begM s k) ka h1 h2 h3 okb fitb (by rw [beg_len]; exact Hka.out.2) (by rw [HRel.out.nb]; exact hf)
  have HOn : Hid (((begM s k).at k).once = true) := by show _ = _; rw [beg_at hk]
  refine (look_walkA (N := N) base H H bc bd bn sp ps[k] ka lk ps _ rb rc (begM s k) (.slice none 0 0) (.slice none 0 0) [] [] w5 hbr1 hS5 HN.out hR5 hz hs5 (by simp) (by simp)).mono ?_
  rintro e w6 (⟨s6, n6, er6, rfl, her6, hn6, ⟨vd1, vn1, hS6, hR6⟩, hK6, hb6, hl6, hrel6⟩ | ⟨rfl, s6, hS6, hK6, hb6, hl6, hrel6⟩)
  rotate_left
  · have hAft : AftA N H w w6 base sp lk ps (.slice (some ⟨gc, 0, none⟩) ps.length cc) rb rc s := ⟨s6, hS6, HK5.out.trans hK6, hbW5.trans hb6, HH5.out.trans hl6, HRel.out.trans hrel6⟩
    clear hS6 hK6 hb6 hl6 hrel6 hS5 hR5 hv5 hl5 c13 cbc cl0 hbr1 HK5 HH5 hbW5
    go_wp2_with fail
    rw [← HhH.out]
    exact ⟨rfl, .inr rfl, hAft⟩
  go_upto_block 0 with fail
  have HR6 := Lib.hid (HRel.out.trans hrel6)
  have Hon6 : Hid ((s6.at k).once = true) := hrel6.once k HOn.out
  have hs6l : s6.cs.length = s.cs.length := HR6.out.len
  have Hxl := Lib.hid hs6l
  have HK6 : Hid (KeepN N w w6) := HK5.out.trans hK6
  have HH6 : Hid (LedB H w w6) := HH5.out.trans hl6
  have hbW6 := hbW5.trans hb6
  have hsz6 : H ≤ w6.heap.size := Nat.le_trans hs5 hb6.size
  have hnb6 : s6.nb < f := by rw [HR6.out.nb]; exact hf
  have ok6 := HR6.out.ok ok
  have fit6 := HR6.out.fit hfit
  simp only [List.nil_append] at hR6
  clear hK6 hb6 hl6 hrel6 hs6l hS5 hR5 hv5 hl5 c13 cbc cl0 hbr1 HK5 HH5 hbW5
  go_cut [8] (fun s8 wc => (∃ (y : Sh) (dl : List Dep) (nl : List Int) (vd vn : Value) (okB : Bool), s8 = .bool okB ∧ ShAt (Nrun N H bc bd bn vd vn) wc base sp lk ps (.slice (some ⟨gc, 0, none⟩) ps.length cc) rb rc y ∧ RunV wc H H bc bd bn sp ps[k] vd vn dl nl ∧ Hid (KeepN N w wc) ∧ Below base w wc ∧ Hid (RunA s k y dl nl okB) ∧ Hid (LedB H w wc)))
  case first =>
    have hc6 := hS6.each k hkp
    obtain ⟨vd6, vl6, hv6⟩ := hc6
    have hlo : (s6.at k).looks = (s.at k).looks := by
      obtain ⟨q1, q2, q3, q4⟩ := HR6.out.rule k
      unfold Cel.looks; rw [q1, q2, q3, q4]
    have hop6 : (s6.at k).op = (s.at k).op := (HR6.out.rule k).1
    have hl6 : w6.ownsRow base 3 1 vl6 (s.at k).looks.length (intsV (s.at k).looks) := by rw [← hlo]; exact hv6.l1 Hon6.out
    obtain ⟨gl6, lc6, hvl, _, _⟩ := World.ownsRow.form hl6 hlp
    subst hvl
    have c13 := hv6.blk.cell 13
    have c0 := hv6.blk.cell 0
    have cbc := hR6.c_.cell 0
    have cbn := hR6.n_.cell 0
    obtain ⟨gn, nc, hvn, _, _⟩ := hR6.on_.form (by simp)
    subst hvn
    have cn0 := own_cell hR6.on_ 0 (.int .i64 n6) rfl
    simp [celCells] at c13 c0 cbc cbn
    rw [hop6] at c0
    have q1 : (0 : Int) < (1 : Int) := by omega
    have Hhlo := Lib.hid hlo
    have Hhop := Lib.hid hop6
    clear hlo hop6
    rcases her6 with rfl | rfl
    · have e0 : ((0 : Int) == 0) = true := rfl
      rw [e0]
      by_cases h5 : (s.at k).op = 5
      · have e4 : ((s.at k).op == 4) = false := by simp; omega
        have ell : (s.at k).looks.length = 1 := by unfold Cel.looks looksL; simp [h5]
        have ell1 : ¬ (1 : Int) < ((s.at k).looks.length : Int) := by omega
        have H5 := Lib.hid h5
        clear h5 ell e0
        go_wp2_with fail
        go_meet
        exact ⟨_, _, _, vd1, _, _, rfl, hS6, hR6, HK6.out, hbW6, ⟨HR6.out, Hon6.out, ⟨hn6, i64_0⟩, ⟨by simp, fun _ h => absurd H5.out h⟩, by simp, fun d hd => by simp only [List.mem_singleton] at hd; subst hd; exact Hka.out.2⟩, HH6.out⟩
      · have hb1 := hlk _ (looks_b (c := s.at k) ⟨by omega, by omega⟩)
        obtain ⟨kb, hkb⟩ : ∃ kb : Nat, (s.at k).b = kb := ⟨(s.at k).b.toNat, by omega⟩
        have Hkb : Hid ((s.at k).b.toNat = kb ∧ kb < s6.cs.length) := ⟨by omega, by have := Hxl.out; omega⟩
        have hl1 : (intsV (s.at k).looks)[1]? = some (.int .i64 (kb : Int)) := by
          have : (s.at k).op = 1 ∨ (s.at k).op = 2 ∨ (s.at k).op = 3 ∨ (s.at k).op = 4 := by omega
          unfold Cel.looks looksL intsV
          rcases this with e | e | e | e <;> simp [e, hkb]
        have cl1 := own_cell hl6 1 _ hl1
        have hlen1 : (1 : Int) < ((s.at k).looks.length : Int) := by
          have := (List.getElem?_eq_some_iff.1 hl1).1
          simp [intsV] at this
          omega
        have Hkb2 := Lib.hid hkb
        clear hl1 hkb hb1
        by_cases h4 : (s.at k).op = 4
        · have e4 : ((s.at k).op == 4) = true := by simpa using h4
          by_cases hn0 : n6 = 0
          · have hc1 := hlk _ (looks_c (c := s.at k) h4)
            obtain ⟨kc, hkc⟩ : ∃ kc : Nat, (s.at k).c = kc := ⟨(s.at k).c.toNat, by omega⟩
            have Hkc : Hid ((s.at k).c.toNat = kc ∧ kc < s6.cs.length) := ⟨by omega, by have := Hxl.out; omega⟩
            have hl2 : (intsV (s.at k).looks)[2]? = some (.int .i64 (kc : Int)) := by
              unfold Cel.looks looksL intsV
              simp [h4, hkc]
            have cl2 := own_cell hl6 2 _ hl2
            have hlen2 : (2 : Int) < ((s.at k).looks.length : Int) := by
              have := (List.getElem?_eq_some_iff.1 hl2).1
              simp [intsV] at this
              omega
            have en0 : (n6 == 0) = true := by simpa using hn0
            have en1 : (n6 != 0) = false := by simpa using hn0
            clear h5 h4 hn0 e0 hl2 hkc hc1
            go_wp2_with fail
            have hbr2 := fun N' w' (h1 : ShAt N' w' base sp lk ps (.slice (some ⟨gc, 0, none⟩) ps.length cc) rb rc s6) h2 h3 => hbr0.out N' w' base sp lk ps _ rb rc s6 kc h1 h2 h3 ok6 fit6 Hkc.out.2 hnb6
            refine (look_walkA (N := N) base H H bc bd bn sp ps[k] kc lk ps _ rb rc s6 vd1 (.slice (some ⟨gn, 0, none⟩) 1 nc) [⟨ka, n6, 0⟩] [n6] w6 hbr2 hS6 HN.out hR6 hz hsz6 (by simp) (by simp)).mono ?_
            rintro e w7 (⟨s7, n7, er7, rfl, her7, hn7, ⟨vd2, vn2, hS7, hR7⟩, hK7, hb7, hl7, hrel7⟩ | ⟨rfl, s7, hS7, hK7, hb7, hl7, hrel7⟩)
            rotate_left
            · have hAft : AftA N H w w7 base sp lk ps (.slice (some ⟨gc, 0, none⟩) ps.length cc) rb rc s := ⟨s7, hS7, HK6.out.trans hK7, hbW6.trans hb7, HH6.out.trans hl7, HR6.out.trans hrel7⟩
              clear hS7 hK7 hb7 hl7 hrel7 hbr2
              go_wp2_with fail
              rw [← HhH.out]
              exact ⟨rfl, .inr rfl, hAft⟩
            have HP : Hid (RunA s k s7 [⟨ka, n6, 0⟩, ⟨kc, n7, er7⟩] [n6, n7] (er7 == 0)) :=
              ⟨HR6.out.trans hrel7, hrel7.once k Hon6.out, ⟨hn6, hn7⟩, ⟨by simp, fun _ _ => by simp⟩, by simp, fun d hd => by
                simp only [List.mem_cons, List.mem_nil_iff, or_false] at hd
                rcases hd with rfl | rfl
                · exact Hka.out.2
                · have h1 := Hkc.out.2; have h2 := Hxl.out; show kc < _; omega⟩
            have HK7 : Hid (KeepN N w w7) := HK6.out.trans hK7
            have HH7 : Hid (LedB H w w7) := HH6.out.trans hl7
            have hbW7 := hbW6.trans hb7
            clear hbr2 hK7 hb7 hl7 hrel7
            go_wp2_with fail
            go_meet
            exact ⟨_, _, _, vd2, vn2, _, rfl, hS7, hR7, HK7.out, hbW7, HP.out, HH7.out⟩
          · have en0 : (n6 == 0) = false := by simpa using hn0
            have en1 : (n6 != 0) = true := by simpa using hn0
            clear h5 h4 hn0 e0
            go_wp2_with fail
            have hbr2 := fun N' w' (h1 : ShAt N' w' base sp lk ps (.slice (some ⟨gc, 0, none⟩) ps.length cc) rb rc s6) h2 h3 => hbr0.out N' w' base sp lk ps _ rb rc s6 kb h1 h2 h3 ok6 fit6 Hkb.out.2 hnb6
            refine (look_walkA (N := N) base H H bc bd bn sp ps[k] kb lk ps _ rb rc s6 vd1 (.slice (some ⟨gn, 0, none⟩) 1 nc) [⟨ka, n6, 0⟩] [n6] w6 hbr2 hS6 HN.out hR6 hz hsz6 (by simp) (by simp)).mono ?_
            rintro e w7 (⟨s7, n7, er7, rfl, her7, hn7, ⟨vd2, vn2, hS7, hR7⟩, hK7, hb7, hl7, hrel7⟩ | ⟨rfl, s7, hS7, hK7, hb7, hl7, hrel7⟩)
            rotate_left
            · have hAft : AftA N H w w7 base sp lk ps (.slice (some ⟨gc, 0, none⟩) ps.length cc) rb rc s := ⟨s7, hS7, HK6.out.trans hK7, hbW6.trans hb7, HH6.out.trans hl7, HR6.out.trans hrel7⟩
              clear hS7 hK7 hb7 hl7 hrel7 hbr2
              go_wp2_with fail
              rw [← HhH.out]
              exact ⟨rfl, .inr rfl, hAft⟩
            have HP : Hid (RunA s k s7 [⟨ka, n6, 0⟩, ⟨kb, n7, er7⟩] [n6, n7] (er7 == 0)) :=
              ⟨HR6.out.trans hrel7, hrel7.once k Hon6.out, ⟨hn6, hn7⟩, ⟨by simp, fun _ _ => by simp⟩, by simp, fun d hd => by
                simp only [List.mem_cons, List.mem_nil_iff, or_false] at hd
                rcases hd with rfl | rfl
                · exact Hka.out.2
                · have h1 := Hkb.out.2; have h2 := Hxl.out; show kb < _; omega⟩
            have HK7 : Hid (KeepN N w w7) := HK6.out.trans hK7
            have HH7 : Hid (LedB H w w7) := HH6.out.trans hl7
            have hbW7 := hbW6.trans hb7
            clear hbr2 hK7 hb7 hl7 hrel7
            go_wp2_with fail
            go_meet
            exact ⟨_, _, _, vd2, vn2, _, rfl, hS7, hR7, HK7.out, hbW7, HP.out, HH7.out⟩
        · have e4 : ((s.at k).op == 4) = false := by simpa using h4
          have hlenN : 1 < (s.at k).looks.length := by omega
          have hlenD : decide (1 < (s.at k).looks.length) = true := by simpa using hlenN
          have hlenE : decide ((1 : Int) < ((s.at k).looks.length : Int)) = true := by simpa using hlen1
          clear h5 h4 e0
          go_wp2_with fail
          have hbr2 := fun N' w' (h1 : ShAt N' w' base sp lk ps (.slice (some ⟨gc, 0, none⟩) ps.length cc) rb rc s6) h2 h3 => hbr0.out N' w' base sp lk ps _ rb rc s6 kb h1 h2 h3 ok6 fit6 Hkb.out.2 hnb6
          refine (look_walkA (N := N) base H H bc bd bn sp ps[k] kb lk ps _ rb rc s6 vd1 (.slice (some ⟨gn, 0, none⟩) 1 nc) [⟨ka, n6, 0⟩] [n6] w6 hbr2 hS6 HN.out hR6 hz hsz6 (by simp) (by simp)).mono ?_
          rintro e w7 (⟨s7, n7, er7, rfl, her7, hn7, ⟨vd2, vn2, hS7, hR7⟩, hK7, hb7, hl7, hrel7⟩ | ⟨rfl, s7, hS7, hK7, hb7, hl7, hrel7⟩)
          rotate_left
          · have hAft : AftA N H w w7 base sp lk ps (.slice (some ⟨gc, 0, none⟩) ps.length cc) rb rc s := ⟨s7, hS7, HK6.out.trans hK7, hbW6.trans hb7, HH6.out.trans hl7, HR6.out.trans hrel7⟩
            clear hS7 hK7 hb7 hl7 hrel7 hbr2
            go_wp2_with fail
            rw [← HhH.out]
            exact ⟨rfl, .inr rfl, hAft⟩
          have HP : Hid (RunA s k s7 [⟨ka, n6, 0⟩, ⟨kb, n7, er7⟩] [n6, n7] (er7 == 0)) :=
            ⟨HR6.out.trans hrel7, hrel7.once k Hon6.out, ⟨hn6, hn7⟩, ⟨by simp, fun _ _ => by simp⟩, by simp, fun d hd => by
              simp only [List.mem_cons, List.mem_nil_iff, or_false] at hd
              rcases hd with rfl | rfl
              · exact Hka.out.2
              · have h1 := Hkb.out.2; have h2 := Hxl.out; show kb < _; omega⟩
          have HK7 : Hid (KeepN N w w7) := HK6.out.trans hK7
          have HH7 : Hid (LedB H w w7) := HH6.out.trans hl7
          have hbW7 := hbW6.trans hb7
          clear hbr2 hK7 hb7 hl7 hrel7
          go_wp2_with fail
          go_meet
          exact ⟨_, _, _, vd2, vn2, _, rfl, hS7, hR7, HK7.out, hbW7, HP.out, HH7.out⟩
    · have e0 : ((7 : Int) == 0) = false := rfl
      rw [e0]
      go_wp2_with fail
      go_meet
      exact ⟨_, _, _, vd1, _, _, rfl, hS6, hR6, HK6.out, hbW6, ⟨HR6.out, Hon6.out, ⟨hn6, i64_0⟩, ⟨by simp, fun h => by cases h⟩, by simp, fun d hd => by simp only [List.mem_singleton] at hd; subst hd; exact Hka.out.2⟩, HH6.out⟩
  case rest =>
    clear hS6 hR6 hbW6 hsz6 HR6 Hon6 Hxl HK6 HH6 hlk hlp hlpi hr1 hr2 okb fitb HOn hnb6 ok6 fit6 her6 hn6 hmx
    obtain ⟨y, dl, nl, vd, vn, okB, rfl, hS7, hR7, HK7, hbW7, HP, HH7⟩ := hcut
    have hc7 := hS7.each k hkp
    have hop7 : (y.at k).op = (s.at k).op := (HP.out.rel.rule k).1
    obtain ⟨vo, vl, hv7⟩ := hc7
    obtain ⟨Ad, cd, hvd⟩ := own_form hR7.od
    subst hvd
    have cbc := hR7.c_.cell 0
    have cbd := hR7.d_.cell 0
    have c4 := hv7.blk.cell 4
    have c5 := hv7.blk.cell 5
    have c6 := hv7.blk.cell 6
    have c7 := hv7.blk.cell 7
    have f4 := hv7.blk.frozen 4
    have f5 := hv7.blk.frozen 5
    have f6 := hv7.blk.frozen 6
    have f7 := hv7.blk.frozen 7
    simp [celCells] at cbc cbd c4 c5 c6 c7
    have hn1 : ps[k] ≠ bc := blk_ne hv7.blk hR7.c_ (by decide)
    have hn2 : ps[k] ≠ bd := blk_ne hv7.blk hR7.d_ (by decide)
    go_upto_region 17 with fail
    go_region_held3 (fun w' => w'.cell? ⟨bc, 0, none⟩ = some (.pointer (some ⟨ps[k], 0, none⟩)) ∧ w'.cell? ⟨bd, 0, none⟩ = some (.slice Ad dl.length cd)) (first | (go_keep; done)) (fail)
    have hst := run_store (base := base) (.slice Ad dl.length cd) dl hv7.blk hp0
    have hHwc : H ≤ wc.heap.size := by have := hR7.s_.lt; omega
    have Fin := Lib.hid fun wF o => run_finA (wF := wF) hkp hk hop HN.out hz hHwc hS7 hR7 hv7 HK7.out hbW7 HP.out HH7.out o
    have Hop7 := Lib.hid hop7
    clear hop7
    clear cbd c4 c5 c6 c7 f4 f5 f6 f7 HK7 HH7
    generalize (((((wc.setCell ⟨ps[k], 4, none⟩ (.bool true)).setCell ⟨ps[k], 7, none⟩ (.slice Ad dl.length cd)).setCell ⟨ps[k], 5, none⟩ (.int .i64 0)).setCell ⟨ps[k], 6, none⟩ (.int .i64 7)).drew) = wA at hst ⊢
    cases okB with
    | false =>
      go_wp2_with fail
      go_end0
      rw [← HhH.out]
      exact ⟨.inl rfl, Fin.out wA (0, 7) (.inr rfl) i64_0 hst⟩
    | true =>
      have hln := HP.out.has.1
      have hln2 := HP.out.has.2 rfl
      obtain ⟨gn, nc, hvn, _, _⟩ := hR7.on_.form (by omega)
      subst hvn
      have hoA := hst.2.1
      have hnb : gn ≠ ps[k] := fun e => own_ne hR7.on_ hv7.blk (by decide) (by rw [← e]; rfl)
      have hlt7 := (hR7.on_.lt gn rfl).2
      have g0 : wA.drew.cell? ⟨gn, 0, none⟩ = some (.int .i64 (nl.getD 0 0)) := (World.cell?_of_block (a := ⟨gn, 0, none⟩) (hoA gn hlt7 hnb)).trans (own_cell hR7.on_ 0 _ (by
        rw [List.getD_eq_getElem?_getD]; unfold intsV; rw [List.getElem?_map, List.getElem?_eq_getElem (by omega)]; rfl))
      have g1 : (s.at k).op ≠ 5 → wA.drew.cell? ⟨gn, 1, none⟩ = some (.int .i64 (nl.getD 1 0)) := fun h5 => (World.cell?_of_block (a := ⟨gn, 1, none⟩) (hoA gn hlt7 hnb)).trans (own_cell hR7.on_ 1 _ (by
        have := hln2 h5
        rw [List.getD_eq_getElem?_getD]; unfold intsV; rw [List.getElem?_map, List.getElem?_eq_getElem (by omega)]; rfl))
      have kbc : wA.cell? ⟨bc, 0, none⟩ = some (.pointer (some ⟨ps[k], 0, none⟩)) := (World.cell?_of_block (a := ⟨bc, 0, none⟩) (hoA bc hR7.c_.lt (Ne.symm hn1))).trans cbc
      have hbnn : bn ≠ ps[k] := blk_ne hR7.n_ hv7.blk (by decide)
      have cbn := hR7.n_.cell 0
      simp at cbn
      have kbn : wA.cell? ⟨bn, 0, none⟩ = some (.slice (some ⟨gn, 0, none⟩) nl.length nc) := (World.cell?_of_block (a := ⟨bn, 0, none⟩) (hoA bn hR7.n_.lt hbnn)).trans cbn
      have k0 := hst.1.cell 0
      have k5 := hst.1.cell 5
      have k6 := hst.1.cell 6
      have j5 := hst.1.frozen 5
      have j6 := hst.1.frozen 6
      simp [celCells] at k0 k5 k6
      rw [Hop7.out] at k0
      have Hrk := Lib.hid (reckon_walk (s.at k).op (nl.getD 0 0) (nl.getD 1 0) gn 0 nl.length nc wA.drew ⟨by omega, hops.2⟩ g0 g1 hln2 hln HP.out.num.1 HP.out.num.2)
      have Hst := Lib.hid hst
      have HNum := Lib.hid HP.out.num
      have hn3 : ps[k] ≠ bn := Ne.symm hbnn
      clear g0 g1 hln2 hst hoA hln hlt7 hS7 hR7 hv7 hbW7 HP cbn cbc hbnn
      go_upto_region 19 with fail
      go_region_held3 (fun w' => w'.cell? ⟨bc, 0, none⟩ = some (.pointer (some ⟨ps[k], 0, none⟩)) ∧ w'.cell? ⟨ps[k], 0, none⟩ = some (.int .i64 (s.at k).op) ∧ w'.cell? ⟨bn, 0, none⟩ = some (.slice (some ⟨gn, 0, none⟩) nl.length nc)) (first | (go_keep; done) | (refine ⟨?_, ?_, ?_⟩ <;> first | (go_keep; done) | exact run_cell0 k0 (by decide) | exact run_cell0 (run_cell0 k0 (by decide)) (by decide))) ((go_at_call 63; refine (show Calls _ _ _ (World.drew wA) _ from Hrk.out).mono ?_; rintro e w2 ⟨rfl, nd, rfl⟩))
      go_wp2_with fail
      go_end0
      have hl := run_last (c := y.at k) (vd := .slice Ad dl.length cd) (vl := vl) (dl := dl) (reckonM (s.at k).op (nl[0]?.getD 0) (nl[1]?.getD 0)) (1 + nd) Hst.out hp0
      rw [← HhH.out]
      exact ⟨.inl rfl, Fin.out _ (reckonM (s.at k).op (nl[0]?.getD 0) (nl[1]?.getD 0), 0) (.inl rfl) (by have h1 := HNum.out; rw [List.getD_eq_getElem?_getD, List.getD_eq_getElem?_getD] at h1; exact reckon_i64 h1.2) hl⟩
end Go.Proofs.YtnadldoebfmgmaaDoor.q
