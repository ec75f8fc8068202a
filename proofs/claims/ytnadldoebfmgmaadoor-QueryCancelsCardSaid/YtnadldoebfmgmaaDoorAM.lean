/-
  THE WALK of (*query.Sheet).Some.
-/
import Derived.Test.YtnadldoebfmgmaaDoorAS
import Derived.Test.YtnadldoebfmgmaaDoorQV
namespace Go.Proofs.YtnadldoebfmgmaaDoor.q
open Go.RowKit

/-- how Some may end -/
def EndS (N : Nat → Prop) (w : World) (base sp : Nat) (ps : List Nat) (vc : Value) (rb rc : Nat) (s : Sh) (e : Ending) (w' : World) : Prop :=
  ∃ n er : Int, e = .returned (.tuple #[.int .i64 n, errQ er]) ∧ KeepN N w w' ∧ Below base w w' ∧
    ((er = 0 ∨ er = 1 ∨ er = 7) ∨ (er = 14 ∧ ∃ s1 s2, ShAt N w' base sp 0 ps vc rb rc s2 ∧ s1.sets = s.sets ∧ Back s s1 s2))
section
variable {N : Nat → Prop} {w : World} {base sp rb rc : Nat} {ps : List Nat} {vc : Value} {s : Sh}
theorem choose_vd {lk : Int} (hS : ShAt N w base sp lk ps vc rb rc s) : ∃ vd : Nat → Value, ∀ i (h : i < ps.length), ∃ vl, CelV N w base ps[i] (s.at i) (vd i) vl :=
  ⟨fun i => if h : i < ps.length then Classical.choose (hS.each i h) else .nilIface, fun i h => by simp only [dif_pos h]; exact Classical.choose_spec (hS.each i h)⟩

theorem some_out {W : World} {bn be : Nat} {n : Int} {v : Value} {tmps : Array Value} (h6 : tmps.getD 6 undef = .pointer (some ⟨bn, 0, none⟩)) (h7 : tmps.getD 7 undef = .pointer (some ⟨be, 0, none⟩)) (hn : W.cell? ⟨bn, 0, none⟩ = some (.int .i64 n)) (he : W.cell? ⟨be, 0, none⟩ = some v) :
    (results Tryd.f14 tmps).run Tryd.prog W = .ok (.tuple #[.int .i64 n, v]) W := by
  simp only [Array.getD_eq_getD_getElem?] at h6 h7
  simp [results, Tryd.results14, h6, h7, hn, he, go_sem]
/-- the lock is let go, and the results are read -/
theorem some_leave {W : World} {bn be : Nat} {n : Int} {v : Value} {tmps : Array Value} {R : Ending → World → Prop} (h6 : tmps.getD 6 undef = .pointer (some ⟨bn, 0, none⟩)) (h7 : tmps.getD 7 undef = .pointer (some ⟨be, 0, none⟩)) (hn : W.cell? ⟨bn, 0, none⟩ = some (.int .i64 n)) (he : W.cell? ⟨be, 0, none⟩ = some v)
    (h0 : W.cell? ⟨sp, 0, none⟩ = some (.int .i32 1)) (f0 : W.frozen? ⟨sp, 0, none⟩ = false) (hn1 : sp ≠ bn) (hn2 : sp ≠ be) (hR : R (.returned (.tuple #[.int .i64 n, v])) (W.setCell ⟨sp, 0, none⟩ (.int .i32 0))) :
    Leaves Tryd.prog Tryd.f14 tmps R [{ target := .fn (.func 21) #[], args := #[.pointer (some ⟨sp, 0, none⟩)] }] .returning W := by
  refine leaves_cons (f := 21) (args := #[.pointer (some ⟨sp, 0, none⟩)]) (by simp) (by simp [go_sem]) ?_
  refine (unlock_deferred ⟨sp, 0, none⟩ _ _ h0 f0).mono ?_
  rintro e u' w'' ⟨rfl, rfl, rfl⟩
  exact ⟨_, some_out h6 h7 ((World.cell?_setCell_other _ ⟨sp, 0, none⟩ ⟨bn, 0, none⟩ _ fun e => hn1 (by injection e)).trans hn) ((World.cell?_setCell_other _ ⟨sp, 0, none⟩ ⟨be, 0, none⟩ _ fun e => hn2 (by injection e)).trans he), hR⟩
/-- Some's boxes -/
structure SmB (W : World) (sp bx bn be : Nat) (n : Int) (v : Value) : Prop where
  x : Blk W bx 24 #[.pointer (some ⟨sp, 0, none⟩)]
  n : Blk W bn 3 #[.int .i64 n]
  e : Blk W be 29 #[v]
  ne : bn ≠ be
theorem SmB.far {W : World} {sp bx bn be : Nat} {n : Int} {v : Value} (h : SmB W sp bx bn be n v) {cs : Array Value} (hS : Blk W sp 62 cs) (j : Nat) (u : Value) : SmB (W.setCell ⟨sp, j, none⟩ u) sp bx bn be n v :=
  ⟨h.x.far (p := ⟨sp, j, none⟩) (blk_ne h.x hS (by decide)) _, h.n.far (p := ⟨sp, j, none⟩) (blk_ne h.n hS (by decide)) _, h.e.far (p := ⟨sp, j, none⟩) (blk_ne h.e hS (by decide)) _, h.ne⟩
theorem SmB.below {W W' : World} {sp bx bn be : Nat} {n : Int} {v : Value} (h : SmB W sp bx bn be n v) (hb : Below W.heap.size W W') : SmB W' sp bx bn be n v :=
  ⟨h.x.below hb h.x.lt, h.n.below hb h.n.lt, h.e.below hb h.e.lt, h.ne⟩
theorem SmB.res {W : World} {sp bx bn be : Nat} {n : Int} {v : Value} (h : SmB W sp bx bn be n v) (n' : Int) (v' : Value) : SmB ((W.setCell ⟨bn, 0, none⟩ (.int .i64 n')).setCell ⟨be, 0, none⟩ v') sp bx bn be n' v' :=
  ⟨(h.x.far (p := ⟨bn, 0, none⟩) (blk_ne h.x h.n (by decide)) _).far (p := ⟨be, 0, none⟩) (blk_ne h.x h.e (by decide)) _,
   (h.n.set_ 0 (.int .i64 n')).far (p := ⟨be, 0, none⟩) h.ne _, (h.e.far (p := ⟨bn, 0, none⟩) h.ne.symm _).set_ 0 v', h.ne⟩
theorem some_fin {W : World} {bn be : Nat} {n er : Int} {tmps : Array Value} (h6 : tmps.getD 6 undef = .pointer (some ⟨bn, 0, none⟩)) (h7 : tmps.getD 7 undef = .pointer (some ⟨be, 0, none⟩)) (hn : W.cell? ⟨bn, 0, none⟩ = some (.int .i64 n)) (he : W.cell? ⟨be, 0, none⟩ = some (errQ er))
    (h0 : W.cell? ⟨sp, 0, none⟩ = some (.int .i32 1)) (f0 : W.frozen? ⟨sp, 0, none⟩ = false) (hn1 : sp ≠ bn) (hn2 : sp ≠ be) (hK : KeepN N w W) (hb : Below base w W) (hnsp : ¬ N sp) (hbs : base ≤ sp) (her : er = 0 ∨ er = 1 ∨ er = 7) :
    Leaves Tryd.prog Tryd.f14 tmps (fun e w' => EndS N w base sp ps vc rb rc s e w') [{ target := .fn (.func 21) #[], args := #[.pointer (some ⟨sp, 0, none⟩)] }] .returning W :=
  some_leave h6 h7 hn he h0 f0 hn1 hn2 ⟨n, er, rfl, hK.trans (KeepN.setCell (p := ⟨sp, 0, none⟩) hnsp _), hb.setCell (p := ⟨sp, 0, none⟩) hbs _, .inl her⟩
/-- .. where nothing was brought -/
theorem some_bad {W : World} {bx bn be : Nat} {n0 : Int} {v0 : Value} {tmps : Array Value} {NB : Nat → Prop} (h6 : tmps.getD 6 undef = .pointer (some ⟨bn, 0, none⟩)) (h7 : tmps.getD 7 undef = .pointer (some ⟨be, 0, none⟩)) (hB : SmB W sp bx bn be n0 v0) (hSW : ShAt NB W base sp 1 ps vc rb rc s)
    (hN : ∀ j, N j → j < w.heap.size) (hX : w.heap.size ≤ bx ∧ w.heap.size ≤ bn ∧ w.heap.size ≤ be) (hz : base ≤ w.heap.size) (hK : KeepN N w W) (hb : Below base w W) (hnsp : ¬ N sp) (n er : Int) (her : er = 0 ∨ er = 1 ∨ er = 7) :
    Leaves Tryd.prog Tryd.f14 tmps (fun e w' => EndS N w base sp ps vc rb rc s e w') [{ target := .fn (.func 21) #[], args := #[.pointer (some ⟨sp, 0, none⟩)] }] .returning ((W.setCell ⟨bn, 0, none⟩ (.int .i64 n)).setCell ⟨be, 0, none⟩ (errQ er)) := by
  have hB2 := hB.res n (errQ er)
  have n1 : sp ≠ bn := blk_ne hSW.sheet hB.n (by decide)
  have n2 : sp ≠ be := blk_ne hSW.sheet hB.e (by decide)
  have hs := (hSW.sheet.far (p := ⟨bn, 0, none⟩) n1 (.int .i64 n)).far (p := ⟨be, 0, none⟩) n2 (errQ er)
  have cn := hB2.n.cell 0
  have ce := hB2.e.cell 0
  have c0 := hs.cell 0
  simp at cn ce c0
  exact some_fin h6 h7 cn ce c0 (hs.frozen 0) n1 n2 ((hK.trans (KeepN.setCell (p := ⟨bn, 0, none⟩) (fun h => by have := hN bn h; omega) _)).trans (KeepN.setCell (p := ⟨be, 0, none⟩) (fun h => by have := hN be h; omega) _))
    ((hb.setCell (p := ⟨bn, 0, none⟩) (by show base ≤ bn; omega) _).setCell (p := ⟨be, 0, none⟩) (by show base ≤ be; omega) _) hnsp hSW.base_ her
/-- the blocks that a call of Some keeps -/
def NS (N : Nat → Prop) (w W : World) (j : Nat) : Prop := N j ∨ (w.heap.size ≤ j ∧ j < W.heap.size)
/-- what there is when get is called -/
structure SmP (N : Nat → Prop) (w W : World) (base sp : Nat) (ps : List Nat) (vc : Value) (rb rc : Nat) (s sM : Sh) (bx bn be bo : Nat) (v : Value) (vd : Nat → Value) : Prop where
  sh : ShAt (NS N w W) W base sp 1 ps vc rb rc sM
  bxs : SmB W sp bx bn be 0 .nilIface
  box : Blk W bo 87 #[v]
  own : W.ownsRow w.heap.size 92 6 v ps.length (keptCells s vd ps.length)
  led : ∀ i < ps.length, W.ownsRow base 115 3 (vd i) (s.at i).deps.length (depCells (s.at i).deps) ∧ ∀ k, (vd i).ownBlock = some k → ¬ NS N w W k
  keep : KeepN N w W
  below : Below base w W
  in_ : w.heap.size ≤ bx ∧ w.heap.size ≤ bn ∧ w.heap.size ≤ be ∧ w.heap.size ≤ bo
theorem SmP.make {w2 w3 : World} {bx bn be : Nat} {v : Value} {vd : Nat → Value} {most : Int} (hS : ShAt (fun j => N j ∨ w.heap.size ≤ j) w2 base sp 1 ps vc rb rc s) (hB : SmB w2 sp bx bn be 0 .nilIface) (hv : ∀ i (h : i < ps.length), ∃ vl, CelV (fun j => N j ∨ w.heap.size ≤ j) w2 base ps[i] (s.at i) (vd i) vl)
    (hown : w3.ownsRow w2.heap.size 92 6 v ps.length (keptCells s vd ps.length)) (hb3 : Below w2.heap.size w2 w3) (hK : KeepN N w w2) (hb : Below base w w2) (hN : ∀ j, N j → j < w.heap.size) (hz : base ≤ w.heap.size) (hX : w.heap.size ≤ bx ∧ w.heap.size ≤ bn ∧ w.heap.size ≤ be) :
    SmP N w ((w3.alloc (.cells #[v] 87)).setCell ⟨sp, 5, none⟩ (.int .i64 most)) base sp ps vc rb rc s { s with sets := s.sets, most := most } bx bn be w3.heap.size v vd := by
  have z2 := hb.size
  have z3 := hb3.size
  have hb4 : Below w2.heap.size w2 (w3.alloc (.cells #[v] 87)) := hb3.alloc z3 _
  have h4 := hS.below hb4
  have hB4 := hB.below hb4
  have h5 := h4.setSheet (j := 5) (u := .int .i64 most) (lk' := 1) (sets' := s.sets) (most' := most) rfl
  have hsub : ∀ j, NS N w ((w3.alloc (.cells #[v] 87)).setCell ⟨sp, 5, none⟩ (.int .i64 most)) j → N j ∨ w.heap.size ≤ j := fun j h => h.imp id fun h => h.1
  refine ⟨h5.other (fun _ _ _ => rfl) fun j h => .inl (hsub j h), hB4.far h4.sheet 5 _, ?_, ?_, fun i hi => ?_, ?_, ?_, hX.1, hX.2.1, hX.2.2, by omega⟩
  · have hb := Blk.new w3 87 #[v]
    exact hb.far (p := ⟨sp, 5, none⟩) (blk_ne hb h4.sheet (by decide)) _
  · have ho := hown.alloc (.cells #[v] 87)
    have ho5 : World.ownsRow ((w3.alloc (.cells #[v] 87)).setCell ⟨sp, 5, none⟩ (.int .i64 most)) w2.heap.size 92 6 v ps.length (keptCells s vd ps.length) := own_of_block ho fun k hk => Below.heap_setCell _ _ _ _ fun e => own_ne ho h4.sheet (by decide) (by rw [hk, e])
    refine ⟨ho5.1, ?_⟩
    rcases ho5.2 with h | ⟨g, cap, cur, h1, h2, h3⟩
    · exact .inl h
    · exact .inr ⟨g, cap, cur, h1, by omega, h3⟩
  · obtain ⟨vl, hc⟩ := hv i hi
    have hd : World.ownsRow (w3.alloc (.cells #[v] 87)) base 115 3 (vd i) (s.at i).deps.length (depCells (s.at i).deps) := own_of_block hc.deps fun k hk => hb4.block k (hc.deps.lt k hk).2
    exact ⟨own_of_block hd fun k hk => Below.heap_setCell _ _ _ _ fun e => own_ne hd h4.sheet (by decide) (by rw [hk, e]), fun k hk h => hc.nd k hk (hsub k h)⟩
  · exact (hK.trans fun j hj => hb4.block j (by have := hN j hj; omega)).trans (KeepN.setCell (p := ⟨sp, 5, none⟩) (fun h => hS.nsp (.inl h)) _)
  · exact (hb.trans (hb4.mono (by omega))).setCell (p := ⟨sp, 5, none⟩) hS.base_ _
section
variable {W w6 : World} {sM : Sh} {bx bn be bo : Nat} {v : Value} {vd : Nat → Value} {tmps : Array Value}
theorem NS.lt (hN : ∀ j, N j → j < w.heap.size) (hz : w.heap.size ≤ W.heap.size) : ∀ j, NS N w W j → j < W.heap.size := fun j h => by
  rcases h with h | h
  · have := hN j h; omega
  · exact h.2
/-- broken off: all is given back -/
theorem some_broke {most : Int} (hP : SmP N w W base sp ps vc rb rc s { s with sets := s.sets, most := most } bx bn be bo v vd) (hA : AftA (NS N w W) W.heap.size W w6 base sp 1 ps vc rb rc { s with sets := s.sets, most := most }) (hN : ∀ j, N j → j < w.heap.size) (hz : base ≤ w.heap.size) (hsm : ps.length ≤ 1048576)
    (h6 : tmps.getD 6 undef = .pointer (some ⟨bn, 0, none⟩)) (h7 : tmps.getD 7 undef = .pointer (some ⟨be, 0, none⟩)) :
    Leaves Tryd.prog Tryd.f14 tmps (fun e w' => EndS N w base sp ps vc rb rc s e w') [{ target := .fn (.func 28) #[.pointer (some ⟨bx, 0, none⟩), .pointer (some ⟨bo, 0, none⟩), .pointer (some ⟨bn, 0, none⟩), .pointer (some ⟨be, 0, none⟩)], args := #[] }, { target := .fn (.func 21) #[], args := #[.pointer (some ⟨sp, 0, none⟩)] }] (.panicking enoughC) w6 := by
  obtain ⟨s', a1, a2, a3, a4, a5⟩ := hA
  have zW := hP.below.size
  have z6 := a3.size
  have hlt := NS.lt (W := W) hN zW
  obtain ⟨i1, i2, i3, i4⟩ := hP.in_
  have nx : NS N w W bx := .inr ⟨i1, hP.bxs.x.lt⟩
  have nn : NS N w W bn := .inr ⟨i2, hP.bxs.n.lt⟩
  have ne : NS N w W be := .inr ⟨i3, hP.bxs.e.lt⟩
  have no : NS N w W bo := .inr ⟨i4, hP.box.lt⟩
  have cx := hP.bxs.x.cell 0
  have cn := hP.bxs.n.cell 0
  have ce := hP.bxs.e.cell 0
  have co := hP.box.cell 0
  simp at cx cn ce co
  have fr : ∀ b, NS N w W b → w6.frozen? ⟨b, 0, none⟩ = W.frozen? ⟨b, 0, none⟩ := fun b hb => by unfold World.frozen?; rw [show w6.heap[(⟨b, 0, none⟩ : Addr).block]? = _ from a2 b hb]
  have ce6 : ∀ b, NS N w W b → w6.cell? ⟨b, 0, none⟩ = W.cell? ⟨b, 0, none⟩ := fun b hb => World.cell?_of_block (w := W) (a2 b hb)
  have Nv : ∀ b, v.ownBlock = some b → NS N w W b := fun b hb => .inr (hP.own.lt b hb)
  refine leaves_cons (f := 28) (args := #[.pointer (some ⟨bx, 0, none⟩), .pointer (some ⟨bo, 0, none⟩), .pointer (some ⟨bn, 0, none⟩), .pointer (some ⟨be, 0, none⟩)]) (by simp) (by simp [go_sem]) ?_
  refine (some_restore (N := NS N w W) (s := { s with sets := s.sets, most := most }) (vd := vd) (b0 := w.heap.size) a1 a5 hsm ((ce6 bx nx).trans cx) ((ce6 bo no).trans co) ((ce6 bn nn).trans cn) ((ce6 be ne).trans ce) ((fr bn nn).trans (hP.bxs.n.frozen 0)) ((fr be ne).trans (hP.bxs.e.frozen 0))
    (fun j hj => Nat.lt_of_lt_of_le (hlt j hj) z6) (by omega) nx no nn ne hP.bxs.ne ⟨by omega, by omega⟩ (own_of_block hP.own fun b hb => a2 b (Nv b hb)) Nv
    (fun i hi => ⟨own_of_block (hP.led i hi).1 fun b hb => a4 b ((hP.led i hi).1.lt b hb).2 (by obtain ⟨cs, fr, h⟩ := own_ty (hP.led i hi).1 b hb; exact ⟨cs, fr, h⟩), (hP.led i hi).2⟩)).mono ?_
  rintro e u' w'' ⟨rfl, rfl, y, hy, hBk, hkeep, hbel, hn, he⟩
  have m0 := hy.sheet.cell 0
  simp at m0
  obtain ⟨l1, l2, l3, _⟩ := lock_sheet hy 0
  have n1 : sp ≠ bn := fun e => hy.nsp (e ▸ nn)
  have n2 : sp ≠ be := fun e => hy.nsp (e ▸ ne)
  refine (show Leaves _ _ _ _ [{ target := .fn (.func 21) #[], args := #[.pointer (some ⟨sp, 0, none⟩)] }] .returning w'' from some_leave h6 h7 hn he m0 (hy.sheet.frozen 0) n1 n2 ⟨0, 14, rfl, ?_, (hP.below.trans (a3.trans hbel)).trans l3, .inr ⟨rfl, s', y, l1.other (fun _ _ _ => rfl) fun j h => .inl (.inl h), a5.sets, hBk.len, hBk.sets, hBk.most, hBk.cel⟩⟩)
  intro j hj
  have hj' := hN j hj
  exact ((l2 j (.inl hj)).trans (hkeep j (.inl hj) (by omega) (by omega))).trans ((a2 j (.inl hj)).trans (hP.keep j hj))
theorem some_brokeD {most : Int} {a : Act} (hP : SmP N w W base sp ps vc rb rc s { s with sets := s.sets, most := most } bx bn be bo v vd) (hA : AftA (NS N w W) W.heap.size W w6 base sp 1 ps vc rb rc { s with sets := s.sets, most := most }) (hN : ∀ j, N j → j < w.heap.size) (hz : base ≤ w.heap.size) (hsm : ps.length ≤ 1048576)
    (hd : a.defers = [{ target := .fn (.func 28) #[.pointer (some ⟨bx, 0, none⟩), .pointer (some ⟨bo, 0, none⟩), .pointer (some ⟨bn, 0, none⟩), .pointer (some ⟨be, 0, none⟩)], args := #[] }, { target := .fn (.func 21) #[], args := #[.pointer (some ⟨sp, 0, none⟩)] }]) (h6 : a.tmps.getD 6 undef = .pointer (some ⟨bn, 0, none⟩)) (h7 : a.tmps.getD 7 undef = .pointer (some ⟨be, 0, none⟩)) :
    bodyPostD Tryd.prog Tryd.f14 (fun e w' => EndS N w base sp ps vc rb rc s e w') (.panic enoughC) a w6 := by
  obtain ⟨tm, df⟩ := a
  dsimp only at hd h6 h7
  subst hd
  exact some_broke (tmps := tm) hP hA hN hz hsm h6 h7
/-- not broken off -/
theorem some_ok (hP : SmP N w W base sp ps vc rb rc s sM bx bn be bo v vd) (hA : AftA (NS N w W) W.heap.size W w6 base sp 1 ps vc rb rc sM) (hN : ∀ j, N j → j < w.heap.size) (hz : base ≤ w.heap.size) (n er : Int) (her : er = 0 ∨ er = 1 ∨ er = 7)
    (h6 : tmps.getD 6 undef = .pointer (some ⟨bn, 0, none⟩)) (h7 : tmps.getD 7 undef = .pointer (some ⟨be, 0, none⟩)) :
    Leaves Tryd.prog Tryd.f14 tmps (fun e w' => EndS N w base sp ps vc rb rc s e w') [{ target := .fn (.func 28) #[.pointer (some ⟨bx, 0, none⟩), .pointer (some ⟨bo, 0, none⟩), .pointer (some ⟨bn, 0, none⟩), .pointer (some ⟨be, 0, none⟩)], args := #[] }, { target := .fn (.func 21) #[], args := #[.pointer (some ⟨sp, 0, none⟩)] }] .returning ((w6.setCell ⟨bn, 0, none⟩ (.int .i64 n)).setCell ⟨be, 0, none⟩ (errQ er)) := by
  obtain ⟨s', a1, a2, a3, a4, a5⟩ := hA
  have zW := hP.below.size
  have z6 := a3.size
  obtain ⟨i1, i2, i3, i4⟩ := hP.in_
  have nx : NS N w W bx := .inr ⟨i1, hP.bxs.x.lt⟩
  have nn : NS N w W bn := .inr ⟨i2, hP.bxs.n.lt⟩
  have ne : NS N w W be := .inr ⟨i3, hP.bxs.e.lt⟩
  have hB6 : SmB w6 sp bx bn be 0 .nilIface := ⟨(a2 bx nx).trans hP.bxs.x, (a2 bn nn).trans hP.bxs.n, (a2 be ne).trans hP.bxs.e, hP.bxs.ne⟩
  have hB7 := hB6.res n (errQ er)
  have n1 : sp ≠ bn := fun e => a1.nsp (e ▸ nn)
  have n2 : sp ≠ be := fun e => a1.nsp (e ▸ ne)
  have h7s : ShAt (NS N w W) ((w6.setCell ⟨bn, 0, none⟩ (.int .i64 n)).setCell ⟨be, 0, none⟩ (errQ er)) base sp 1 ps vc rb rc s' := a1.other (fun j _ hj => by
    rw [Below.heap_setCell _ ⟨be, 0, none⟩ _ j fun e => hj (by rw [e]; exact ne), Below.heap_setCell _ ⟨bn, 0, none⟩ _ j fun e => hj (by rw [e]; exact nn)]) fun _ => .inl
  have hK7 : KeepN N w ((w6.setCell ⟨bn, 0, none⟩ (.int .i64 n)).setCell ⟨be, 0, none⟩ (errQ er)) := (((hP.keep.trans fun j hj => a2 j (.inl hj)).trans (KeepN.setCell (p := ⟨bn, 0, none⟩) (fun h => by have := hN bn h; omega) _)).trans (KeepN.setCell (p := ⟨be, 0, none⟩) (fun h => by have := hN be h; omega) _))
  have hb7 : Below base w ((w6.setCell ⟨bn, 0, none⟩ (.int .i64 n)).setCell ⟨be, 0, none⟩ (errQ er)) := ((hP.below.trans a3).setCell (p := ⟨bn, 0, none⟩) (by show base ≤ bn; omega) _).setCell (p := ⟨be, 0, none⟩) (by show base ≤ be; omega) _
  generalize (w6.setCell ⟨bn, 0, none⟩ (.int .i64 n)).setCell ⟨be, 0, none⟩ (errQ er) = w7 at *
  have cx := hB7.x.cell 0
  have cm := h7s.sheet.cell 5
  simp at cx cm
  refine leaves_cons (f := 28) (args := #[.pointer (some ⟨bx, 0, none⟩), .pointer (some ⟨bo, 0, none⟩), .pointer (some ⟨bn, 0, none⟩), .pointer (some ⟨be, 0, none⟩)]) (by simp) (by simp [go_sem]) ?_
  refine (some_idle w7 cx cm (h7s.sheet.frozen 5)).mono ?_
  rintro e u' w'' ⟨rfl, rfl, rfl⟩
  have hB8 := hB7.far h7s.sheet 5 (.int .i64 (-1))
  have h8 := h7s.setSheet (j := 5) (u := .int .i64 (-1)) (lk' := 1) (sets' := s'.sets) (most' := -1) rfl
  have cn := hB8.n.cell 0
  have ce := hB8.e.cell 0
  have c0 := h8.sheet.cell 0
  simp at cn ce c0
  exact (show Leaves _ _ _ _ [{ target := .fn (.func 21) #[], args := #[.pointer (some ⟨sp, 0, none⟩)] }] .returning _ from some_fin h6 h7 cn ce c0 (h8.sheet.frozen 0) n1 n2 (hK7.trans (KeepN.setCell (p := ⟨sp, 5, none⟩) (fun h => h7s.nsp (.inl h)) _)) (hb7.setCell (p := ⟨sp, 5, none⟩) h7s.base_ _) (fun h => h7s.nsp (.inl h)) h7s.base_ her)
end
set_option maxHeartbeats 2000000 in
set_option maxRecDepth 100000 in
theorem Some_walk {B : Nat} (hS : ShAt N w base sp 0 ps vc rb rc s) (hN : ∀ j, N j → j < w.heap.size) (hz : base ≤ w.heap.size) (hr : s.Rest B) (h0 : ∀ j, (s.at j).runs = 0) (k most : Int) (hm : I64 most) :
    Calls Tryd.prog 14 #[.pointer (some ⟨sp, 0, none⟩), .int .i64 k, .int .i64 most] w fun e w' => EndS N w base sp ps vc rb rc s e w' := by
  have hlen := hS.len
  have hsp := hS.sheet.lt
  have hSB : ShAt (fun j => N j ∨ w.heap.size ≤ j) w base sp 0 ps vc rb rc s := hS.other (fun _ _ _ => rfl) fun j h => h
  have HN := Lib.hid hN
  have HS := Lib.hid hS
  have Hr := Lib.hid hr
  have H0 := Lib.hid h0
  have Hlen := Lib.hid hlen
  clear hS hr h0 hlen hN
  go_enter_defers Tryd.func14, Tryd.ntmps14
  go_upto_region 1 with fail
  have hb1 : Below w.heap.size w (((w.alloc (.cells #[.pointer (some ⟨sp, 0, none⟩)] 24)).alloc (.cells #[.int .i64 0] 3)).alloc (.cells #[.nilIface] 29)) := (((Below.refl _ _).alloc (Nat.le_refl _) _).alloc (by simp) _).alloc (by simp; omega) _
  have hB1 : SmB (((w.alloc (.cells #[.pointer (some ⟨sp, 0, none⟩)] 24)).alloc (.cells #[.int .i64 0] 3)).alloc (.cells #[.nilIface] 29)) sp w.heap.size (w.heap.size + 1) (w.heap.size + 1 + 1) 0 .nilIface :=
    ⟨((Blk.new _ _ _).alloc _).alloc _, (blk_new1 _ _ _ _).alloc _, by have h := Blk.new ((w.alloc (.cells #[.pointer (some ⟨sp, 0, none⟩)] 24)).alloc (.cells #[.int .i64 0] 3)) 29 #[.nilIface]; simpa using h, by omega⟩
  obtain ⟨bx, hbx⟩ : ∃ bx, bx = w.heap.size := ⟨_, rfl⟩
  obtain ⟨bn, hbn⟩ : ∃ bn, bn = w.heap.size + 1 := ⟨_, rfl⟩
  obtain ⟨be, hbe⟩ : ∃ be, be = w.heap.size + 1 + 1 := ⟨_, rfl⟩
  rw [← hbe, ← hbn, ← hbx] at hB1 ⊢
  have HX : Hid (w.heap.size ≤ bx ∧ w.heap.size ≤ bn ∧ w.heap.size ≤ be) := ⟨by omega, by omega, by omega⟩
  clear hbx hbn hbe
  generalize ((w.alloc (.cells #[.pointer (some ⟨sp, 0, none⟩)] 24)).alloc (.cells #[.int .i64 0] 3)).alloc (.cells #[.nilIface] 29) = w1 at *
  have hS1 := hSB.below hb1
  have m0 := hS1.sheet.cell 0
  have f0 := hS1.sheet.frozen 0
  simp at m0
  have cx := hB1.x.cell 0
  simp at cx
  obtain ⟨l1, l2, l3, l4⟩ := lock_sheet hS1 1
  have hB2 := hB1.far hS1.sheet 0 (.int .i32 1)
  have hK2 : Hid (KeepN N w (w1.setCell ⟨sp, 0, none⟩ (.int .i32 1))) := fun j hj => (l2 j (.inl hj)).trans (hb1.block j (HN.out j hj))
  have hb2 : Below base w (w1.setCell ⟨sp, 0, none⟩ (.int .i32 1)) := (hb1.mono hz).trans l3
  clear hSB hS1 hB1 hb1 l2 l3 l4
  go_wp2_with fail
  refine (lock_free ⟨sp, 0, none⟩ _ m0 f0).mono ?_
  rintro e w' ⟨rfl, rfl⟩
  clear m0 f0 cx
  generalize w1.setCell ⟨sp, 0, none⟩ (.int .i32 1) = w2 at *
  have cx := hB2.x.cell 0
  have cn := hB2.n.cell 0
  have ce := hB2.e.cell 0
  have fn := hB2.n.frozen 0
  have fe := hB2.e.frozen 0
  simp at cx cn ce
  have hne := hB2.ne
  have hne' := hB2.ne.symm
  by_cases hk : 0 ≤ k ∧ k < ps.length
  · obtain ⟨n, rfl⟩ := Int.eq_ofNat_of_zero_le hk.1
    have hn : n < ps.length := by omega
    have HT := Lib.hid (there_yes l1 n hn)
    clear hk
    by_cases hm0 : most < 0
    · have i1 : decide (most < 0) = true := by simpa using hm0
      have L1 := Lib.hid l1
      have HB2 := Lib.hid hB2
      clear l1 hB2
      go_wp2_with fail
      refine HT.out.mono ?_
      rintro e w' ⟨rfl, rfl⟩
      go_wp2_with fail
      exact some_bad (by rfl) (by rfl) HB2.out L1.out HN.out HX.out hz hK2.out hb2 HS.out.nsp 0 1 (.inr (.inl rfl))
    · have i1 : decide (most < 0) = false := by simpa using hm0
      obtain ⟨vd, hvd⟩ := choose_vd l1
      have hz2 : base ≤ w2.heap.size := Nat.le_trans hz hb2.size
      have HKP := Lib.hid (keep_walk l1 hz2 (by have := Hr.out.small; omega) vd hvd)
      have L1 := Lib.hid l1
      have HB2 := Lib.hid hB2
      have HV := Lib.hid hvd
      clear l1 hB2 hvd cn ce fn fe
      go_upto_region 6 with (first | (go_at_call 22; refine HT.out.mono ?_; rintro e w' ⟨rfl, rfl⟩) | (go_at_call 27; refine HKP.out.mono ?_; rintro e w3 ⟨v, rfl, hown, hb3⟩; obtain ⟨oA, oc, rfl⟩ := own_form hown; have HP := Lib.hid (SmP.make (most := most) L1.out HB2.out HV.out hown hb3 hK2.out hb2 HN.out hz HX.out); have cx := (HB2.out.below hb3).x.cell 0; simp at cx; have m5 := (L1.out.below hb3).sheet.cell 5; have f5 := (L1.out.below hb3).sheet.frozen 5; simp at m5; clear hown))
      have cx : (w3.alloc (.cells #[.slice oA ps.length oc] 87)).cell? ⟨bx, 0, none⟩ = some (.pointer (some ⟨sp, 0, none⟩)) := by have h := (HB2.out.below (hb3.alloc hb3.size (.cells #[.slice oA ps.length oc] 87))).x.cell 0; simpa using h
      have m5 : (w3.alloc (.cells #[.slice oA ps.length oc] 87)).cell? ⟨sp, 5, none⟩ = some (.int .i64 s.most) := by have h := (L1.out.below (hb3.alloc hb3.size (.cells #[.slice oA ps.length oc] 87))).sheet.cell 5; simpa using h
      have f5 : (w3.alloc (.cells #[.slice oA ps.length oc] 87)).frozen? ⟨sp, 5, none⟩ = false := (L1.out.below (hb3.alloc hb3.size (.cells #[.slice oA ps.length oc] 87))).sheet.frozen 5
      have hsm : ps.length ≤ 1048576 := by have := Hr.out.small; have := Hlen.out; omega
      obtain ⟨bo, hbo⟩ : ∃ bo, bo = w3.heap.size := ⟨_, rfl⟩
      rw [← hbo] at HP ⊢
      clear hbo
      go_upto_region 8 with fail
      clear cx m5 f5 hb3
      generalize (w3.alloc (.cells #[.slice oA ps.length oc] 87)).setCell ⟨sp, 5, none⟩ (.int .i64 most) = W at *
      have cx := HP.out.bxs.x.cell 0
      simp at cx
      have hzW := HP.out.below.size
      have hok : ({ s with sets := s.sets, most := most } : Sh).Ok := ⟨Hr.out.ok.ops, Hr.out.ok.looks, Hr.out.ok.deps, Hr.out.ok.errs⟩
      have hfit : ({ s with sets := s.sets, most := most } : Sh).FitA := ⟨by have := Hr.out.small; show s.cs.length ≤ _; omega, by show 0 ≤ most; omega, Hr.out.num, fun j => by
        have h := H0.out j
        unfold I64 at hm
        show 0 ≤ (s.at j).runs ∧ (s.at j).runs + most ≤ _
        omega⟩
      have HG := Lib.hid (get_walkA HP.out.sh (NS.lt HN.out hzW) (Nat.le_trans hz hzW) hok hfit n)
      clear hok hfit
      go_wp2_with fail
      refine HG.out.mono ?_
      rintro e w6 ⟨he, hA⟩
      rcases he with ⟨x, er, rfl, her, _⟩ | rfl
      case' inr =>
        show bodyPostD Tryd.prog Tryd.f14 (fun e w' => EndS N w base sp ps vc rb rc s e w') (.panic enoughC) _ _
        exact some_brokeD HP.out hA HN.out hz hsm rfl rfl rfl
      have a2 := hA
      obtain ⟨_, _, a2, _, _, _⟩ := a2
      have nn : NS N w W bn := .inr ⟨HP.out.in_.2.1, HP.out.bxs.n.lt⟩
      have ne : NS N w W be := .inr ⟨HP.out.in_.2.2.1, HP.out.bxs.e.lt⟩
      have hBn : Blk w6 bn 3 #[.int .i64 0] := (a2 bn nn).trans HP.out.bxs.n
      have hBe : Blk w6 be 29 #[.nilIface] := (a2 be ne).trans HP.out.bxs.e
      have cn := hBn.cell 0
      have ce := hBe.cell 0
      have fn := hBn.frozen 0
      have fe := hBe.frozen 0
      simp at cn ce
      have HA := Lib.hid hA
      clear hA a2 nn ne hBn hBe
      rcases her with rfl | rfl | rfl
      · simp only [errQ]
        go_wp2_with fail
        exact some_ok HP.out HA.out HN.out hz x 0 (.inl rfl) (by rfl) (by rfl)
      · simp only [errQ]
        go_wp2_with fail
        exact some_ok HP.out HA.out HN.out hz x 1 (.inr (.inl rfl)) (by rfl) (by rfl)
      · simp only [errQ]
        go_wp2_with fail
        exact some_ok HP.out HA.out HN.out hz x 7 (.inr (.inr rfl)) (by rfl) (by rfl)
  · have HT := Lib.hid (there_no l1 k hk)
    have L1 := Lib.hid l1
    have HB2 := Lib.hid hB2
    clear l1 hB2 hk
    go_wp2_with fail
    refine HT.out.mono ?_
    rintro e w' ⟨rfl, rfl⟩
    go_wp2_with fail
    exact some_bad (by rfl) (by rfl) HB2.out L1.out HN.out HX.out hz hK2.out hb2 HS.out.nsp 0 1 (.inr (.inl rfl))
end
end Go.Proofs.YtnadldoebfmgmaaDoor.q
