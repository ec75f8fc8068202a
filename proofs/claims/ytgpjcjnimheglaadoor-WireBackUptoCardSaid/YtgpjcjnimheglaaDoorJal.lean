/-
  JOINED of the texts NQ VF
-/
import Derived.Test.YtgpjcjnimheglaaDoorJak
import Derived.Recover
import Derived.RegionTactic
import Derived.ChangeAlike
import Derived.Deep.RegionHeld3
import Derived.StillTailTactics
import Derived.Deep.CutBlock
import Derived.Deep.LoopGhost
import Derived.Lib.ItoaNum
import Derived.Lib.RuneBytes
import Derived.Lib.Strings
import Derived.Lib.ConvBytes
import Derived.Laws.Strings3
import Derived.Laws.Closers25
import Derived.Laws.Closers25b
import Derived.BigCall
import Derived.BigGuard
import Derived.Test.YtgpjcjnimheglaaDoorShelfX
import Derived.Shelf.Spec.BytesIndexFunc
import Derived.Deep.DeepCutAuto
import Derived.Lib.IndexMore
import Derived.Test.YtgpjcjnimheglaaDoorRows
import Derived.WalkKit
import Derived.WalkSpells
import Derived.WalkLawsBesides
import Derived.Below
import Derived.Laws.OwnMore
import Derived.Deep.AppendLies
import Derived.Deep.Draws
import Derived.Lib.Hide
import Derived.Deep.QuietTactic
import Derived.BigQuiet
import Derived.IntWalk
import Derived.Test.YtgpjcjnimheglaaDoorShelfW
import Derived.Shelf.Strings.SlTrimAscii
import Derived.Lib.LaidTab
import Derived.Lib.AtoiAll
import Derived.Lib.IndexLaws
import Derived.Lib.SlTrimSet
import Derived.Lib.Atoi
import Derived.Test.YtgpjcjnimheglaaDoorShelf
import Derived.Shelf.Strings.Builder1
import Derived.WalkMore
import Derived.ScopeJumps
import Derived.Test.YtgpjcjnimheglaaDoorJae
import Derived.Test.YtgpjcjnimheglaaDoorJac
import Derived.Test.YtgpjcjnimheglaaDoorJad
import Derived.Test.YtgpjcjnimheglaaDoorJab
import Derived.Lib.BufferRead
/-
  WALKS of package wire: Parse, and the deferred closure that recovers.
-/
namespace Go.Proofs.YtgpjcjnimheglaaDoor
open Go.RowKit

/-- Parse's boxes -/
structure PBox (w : World) (bj ba be : Nat) (cj : Array Value) (p : Int) (v : Value) : Prop where
  j : Blk w bj 25 cj
  a : Blk w ba 3 #[.int .i64 p]
  e : Blk w be 27 #[v]
set_option maxRecDepth 100000 in
/-- nothing to recover -/
theorem parse_idle {bj ba be : Nat} (w : World) :
    CallsD Tryd.prog 9 #[.pointer (some ⟨bj, 0, none⟩), .pointer (some ⟨ba, 0, none⟩), .pointer (some ⟨be, 0, none⟩)] .returning w fun e u' w' => e = .returned (.tuple #[]) ∧ u' = .returning ∧ w' = w := by
  refine callsD_of_wpS Tryd.func9 rfl fun c₀ cs hu => ?_
  apply wpS_seq
  apply wpS_region
  simp [wpOpsS, go_sem, Tryd.ntmps9, recoverD, hu, Exit.thenS]
  apply wpS_seq
  apply wpS_region
  simp [wpOpsS, go_sem, Exit.thenS]
  refine wpS_cond (t := false) (by simp [Act.eval, Array.replicate]) ?_
  simp only [Bool.false_eq_true, if_false]
  refine wpS_of_wp (wp_skip ?_)
  cases c₀
  simp_all [bodyPostS, results, Tryd.results9]
theorem fault_assert (p er : Int) (xT : TypeId) (w : World) : Sem.run Tryd.prog (Instr.typeAssert (.iface 42 (.agg #[.int .i64 p, .int .i64 er])) xT 42 true) w = .ok (.tuple #[.agg #[.int .i64 p, .int .i64 er], .bool true]) w := by
  simp [Instr.typeAssert, run_underlying Tryd.underlying42, go_sem, Result.andThen]
/-- the rest comes to its end -/
def RestP (F : World → Prop) (e : Exit) (a : Act) (w : World) : Prop :=
  match e with
  | .normal => a.defers = [] ∧ F w
  | _ => False
theorem RestP.normal {F : World → Prop} {a : Act} {w : World} (h : a.defers = []) (hF : F w) : RestP F .normal a w := ⟨h, hF⟩
set_option maxHeartbeats 4000000 in
set_option maxRecDepth 100000 in
/-- a fault is recovered -/
theorem parse_restore {w : World} {bj ba be : Nat} {a0 a1 a2 a3 a4 : Value} {p0 : Int} {v0 : Value} (h : PBox w bj ba be #[a0, a1, a2, a3, a4] p0 v0) (p er : Nat) :
    CallsD Tryd.prog 9 #[.pointer (some ⟨bj, 0, none⟩), .pointer (some ⟨ba, 0, none⟩), .pointer (some ⟨be, 0, none⟩)] (.panicking (faultC p er)) w fun e u' w' =>
      e = .returned (.tuple #[]) ∧ u' = .panicking [{ v := faultV p er, recovered := true }] ∧ PBox w' bj ba be (jz 0 0 []) p (.iface 38 (.int .i64 er)) ∧ (∀ B, B ≤ bj → B ≤ ba → B ≤ be → B ≤ w.heap.size → Below B w w') := by
  refine callsD_of_wpS Tryd.func9 rfl fun c₀ cs hu => ?_
  unfold faultC faultV at hu
  apply wpS_seq
  apply wpS_region
  simp [wpOpsS, go_sem, Tryd.ntmps9, recoverD, hu, Exit.thenS]
  apply wpS_seq
  apply wpS_region
  simp [wpOpsS, go_sem, Exit.thenS]
  refine wpS_cond (t := true) (by simp [Act.eval, Array.replicate]) ?_
  simp only [if_true]
  refine wpS_of_wp ?_
  refine wp_mono (Q := RestP fun w' => PBox w' bj ba be (jz 0 0 []) p (.iface 38 (.int .i64 er)) ∧ (∀ B, B ≤ bj → B ≤ ba → B ≤ be → B ≤ w.heap.size → Below B w w')) ?_ ?_
  rotate_left
  · intro e a w' h
    cases e with
    | normal => exact ⟨h.1, _, rfl, _, by simp [results, Tryd.results9], rfl, rfl, h.2⟩
    | _ => exact h.elim
  simp only [Array.replicate_succ, Array.replicate_zero, List.push_toArray, List.append_toArray, List.nil_append, List.cons_append, List.setIfInBounds_toArray, List.set_cons_zero, List.set_cons_succ]
  have hta := fault_assert
  go_upto_region 5 with fail
  obtain ⟨bf, hbf⟩ : ∃ b, b = w.heap.size := ⟨_, rfl⟩
  rw [← hbf]
  have hBf : Blk (w.alloc (.cells #[.int .i64 p, .int .i64 er] 42)) bf 42 #[.int .i64 p, .int .i64 er] := by rw [hbf]; exact Blk.new _ _ _
  have hbl : Below w.heap.size w (w.alloc (.cells #[.int .i64 p, .int .i64 er] 42)) := (Below.refl _ _).alloc (Nat.le_refl _) _
  have hj := h.j.below hbl h.j.lt
  have ha := h.a.below hbl h.a.lt
  have he := h.e.below hbl h.e.lt
  have nj : bf ≠ bj := by have := h.j.lt; omega
  have na : bf ≠ ba := by have := h.a.lt; omega
  have ne : bf ≠ be := by have := h.e.lt; omega
  have hk : Hid (∀ B, B ≤ bj → B ≤ ba → B ≤ be → B ≤ w.heap.size → Below B w (w.alloc (.cells #[.int .i64 p, .int .i64 er] 42))) := fun B _ _ _ h4 => hbl.mono h4
  clear hbf hbl h hta hu
  generalize w.alloc (.cells #[.int .i64 p, .int .i64 er] 42) = wa at *
  refine wp_region_C (fun _ w' => w'.cell? ⟨bf, 0, none⟩ = some (.int .i64 p) ∧ w'.cell? ⟨bf, 1, none⟩ = some (.int .i64 er)) (by kernel_rfl) ?_
  have hBf1 := hBf.drew
  have hj1 := hj.drew
  have ha1 := ha.drew
  have he1 := he.drew
  have hk1 : Hid (∀ B, B ≤ bj → B ≤ ba → B ≤ be → B ≤ w.heap.size → Below B w wa.drew) := fun B h1 h2 h3 h4 => (hk.out B h1 h2 h3 h4).drew
  clear hBf hj ha he hk
  generalize World.drew wa = wb at *
  have d0 := hBf1.cell 0
  have d1 := hBf1.cell 1
  simp at d0 d1
  have hS0 : (fun w' : World => w'.cell? ⟨bf, 0, none⟩ = some (.int .i64 p) ∧ w'.cell? ⟨bf, 1, none⟩ = some (.int .i64 er)) wb := ⟨d0, d1⟩
  refine wpAnyC_take (fun w' : World => w'.cell? ⟨bf, 0, none⟩ = some (.int .i64 p) ∧ w'.cell? ⟨bf, 1, none⟩ = some (.int .i64 er)) [] (i := 0) (v := ?_) rfl (by kernel_rfl) (by kernel_rfl) (by kernel_rfl) (by kernel_rfl) (fun _ _ _ h => h) (fun _ _ _ _ _ h => h) (fun _ h => h) (Or.inl ⟨by rfl, ?_⟩) hS0 ?_; rotate_left; · (intro w hSw; (try dsimp only at hSw); obtain ⟨s0, s1⟩ := hSw; go_simp; try with_reducible rfl)
  simp only [Act.put, List.setIfInBounds_toArray]
  refine wpAnyC_take (fun w' : World => w'.cell? ⟨bf, 0, none⟩ = some (.int .i64 p) ∧ w'.cell? ⟨bf, 1, none⟩ = some (.int .i64 er)) [] (i := 1) (v := ?_) rfl (by kernel_rfl) (by kernel_rfl) (by kernel_rfl) (by kernel_rfl) (fun _ _ _ h => h) (fun _ _ _ _ _ h => h) (fun _ h => h) (Or.inl ⟨by rfl, ?_⟩) hS0 ?_; rotate_left; · (intro w hSw; (try dsimp only at hSw); obtain ⟨s0, s1⟩ := hSw; go_simp; try with_reducible rfl)
  simp only [Act.put]
  refine wpAnyC_take (fun w' : World => w'.cell? ⟨bf, 0, none⟩ = some (.int .i64 p) ∧ w'.cell? ⟨bf, 1, none⟩ = some (.int .i64 er)) [] (i := 2) (v := ?_) rfl (by kernel_rfl) (by kernel_rfl) (by kernel_rfl) (by kernel_rfl) (fun _ _ _ h => h) (fun _ _ _ _ _ h => h) (fun _ h => h) (Or.inl ⟨by rfl, ?_⟩) hS0 ?_; rotate_left; · (intro w hSw; (try dsimp only at hSw); obtain ⟨s0, s1⟩ := hSw; go_simp; try with_reducible rfl)
  simp only [Act.put]
  refine wpAnyC_take (fun w' : World => w'.cell? ⟨bf, 0, none⟩ = some (.int .i64 p) ∧ w'.cell? ⟨bf, 1, none⟩ = some (.int .i64 er)) [] (i := 3) (v := ?_) rfl (by kernel_rfl) (by kernel_rfl) (by kernel_rfl) (by kernel_rfl) (fun _ _ _ h => h) (fun _ _ _ _ _ h => h) (fun _ h => h) (Or.inl ⟨by rfl, ?_⟩) hS0 ?_; rotate_left; · (intro w hSw; (try dsimp only at hSw); obtain ⟨s0, s1⟩ := hSw; go_simp; try with_reducible rfl)
  simp only [Act.put]
  refine wpAnyC_take (fun w' : World => w'.cell? ⟨bf, 0, none⟩ = some (.int .i64 p) ∧ w'.cell? ⟨bf, 1, none⟩ = some (.int .i64 er)) [] (i := 4) (v := ?_) rfl (by kernel_rfl) (by kernel_rfl) (by kernel_rfl) (by kernel_rfl) (fun _ _ _ h => h) (fun _ _ _ _ _ h => h) (fun _ h => h) (Or.inl ⟨by rfl, ?_⟩) hS0 ?_; rotate_left; · (intro w hSw; (try dsimp only at hSw); obtain ⟨s0, s1⟩ := hSw; go_simp; try with_reducible rfl)
  simp only [Act.put]
  refine wpAnyC_take (fun w' : World => w'.cell? ⟨bf, 0, none⟩ = some (.int .i64 p) ∧ w'.cell? ⟨bf, 1, none⟩ = some (.int .i64 er)) [] (i := 5) (v := ?_) rfl (by kernel_rfl) (by kernel_rfl) (by kernel_rfl) (by kernel_rfl) (fun _ _ _ h => h) (fun _ _ _ _ _ h => h) (fun _ h => h) (Or.inl ⟨by rfl, ?_⟩) hS0 ?_; rotate_left; · (intro w hSw; (try dsimp only at hSw); obtain ⟨s0, s1⟩ := hSw; go_simp; try with_reducible rfl)
  simp only [Act.put]
  have nja : bj ≠ ba := blk_neJ hj1 ha1 (by decide)
  have nje : bj ≠ be := blk_neJ hj1 he1 (by decide)
  have nae : ba ≠ be := blk_neJ ha1 he1 (by decide)
  have c0 := hj1.cell 0
  have c1 := hj1.cell 1
  have c2 := hj1.cell 2
  have c3 := hj1.cell 3
  have c4 := hj1.cell 4
  have f0 := hj1.frozen 0
  have f1 := hj1.frozen 1
  have f2 := hj1.frozen 2
  have f3 := hj1.frozen 3
  have f4 := hj1.frozen 4
  simp at c0 c1 c2 c3 c4
  have e6 := fun b hb => far5 wb bj 0 b (.int .i64 0) (.int .i64 0) (.string ⟨#[]⟩) (.slice none 0 0) (.slice none 0 0) hb
  have hj2 := ((((hj1.set_ 0 (.int .i64 0)).set_ 1 (.int .i64 0)).set_ 2 (.string ⟨#[]⟩)).set_ 3 (.slice none 0 0)).set_ 4 (.slice none 0 0)
  clear hS0
  refine wpAnyC_one (i := 6) (by kernel_rfl) rfl (fun K hK => ?_)
  go_simp
  have hBf2 : Blk (five wb bj 0 (.int .i64 0) (.int .i64 0) (.string ⟨#[]⟩) (.slice none 0 0) (.slice none 0 0)) bf _ _ := (e6 bf nj).trans hBf1
  have ha2 : Blk (five wb bj 0 (.int .i64 0) (.int .i64 0) (.string ⟨#[]⟩) (.slice none 0 0) (.slice none 0 0)) ba _ _ := (e6 ba (Ne.symm nja)).trans ha1
  have he2 : Blk (five wb bj 0 (.int .i64 0) (.int .i64 0) (.string ⟨#[]⟩) (.slice none 0 0) (.slice none 0 0)) be _ _ := (e6 be (Ne.symm nje)).trans he1
  have hk2 : Hid (∀ B, B ≤ bj → B ≤ ba → B ≤ be → B ≤ w.heap.size → Below B w (five wb bj 0 (.int .i64 0) (.int .i64 0) (.string ⟨#[]⟩) (.slice none 0 0) (.slice none 0 0))) := fun B h1 h2 h3 h4 => (((((hk1.out B h1 h2 h3 h4).setCell (p := ⟨bj, 0, none⟩) h1 _).setCell (p := ⟨bj, 0 + 1, none⟩) h1 _).setCell (p := ⟨bj, 0 + 2, none⟩) h1 _).setCell (p := ⟨bj, 0 + 3, none⟩) h1 _).setCell (p := ⟨bj, 0 + 4, none⟩) h1 _
  clear e6 c0 c1 c2 c3 c4 f0 f1 f2 f3 f4 hj1 ha1 he1 hBf1 hk1 d0 d1
  change K _ (five wb bj 0 (.int .i64 0) (.int .i64 0) (.string ⟨#[]⟩) (.slice none 0 0) (.slice none 0 0))
  have hj3 : Blk (five wb bj 0 (.int .i64 0) (.int .i64 0) (.string ⟨#[]⟩) (.slice none 0 0) (.slice none 0 0)) bj 25 (jz 0 0 []) := hj2
  clear hj2
  generalize five wb bj 0 (.int .i64 0) (.int .i64 0) (.string ⟨#[]⟩) (.slice none 0 0) (.slice none 0 0) = wd at *
  have d0 := hBf2.cell 0
  have d1 := hBf2.cell 1
  simp at d0 d1
  refine hK.out _ _ ⟨d0, d1⟩ ?_
  clear hK K
  have fa := ha2.frozen 0
  have ca := ha2.cell 0
  have fe := he2.frozen 0
  have ce := he2.cell 0
  simp at ca ce
  refine wpAnyC_one (i := 7) (by kernel_rfl) rfl (fun K hK => ?_)
  go_simp
  refine hK.out _ _ ⟨?_, ?_⟩ ?_
  · rw [World.cell?_of_block (a := ⟨bf, 0, none⟩) (Below.heap_setCell _ _ _ bf na)]; exact d0
  · rw [World.cell?_of_block (a := ⟨bf, 1, none⟩) (Below.heap_setCell _ _ _ bf na)]; exact d1
  clear hK K
  have he4 := he2.far (p := ⟨ba, 0, none⟩) (Ne.symm nae) (.int .i64 p)
  have fe := he4.frozen 0
  refine wpAnyC_one (i := 8) (by kernel_rfl) rfl (fun K hK => ?_)
  go_simp
  refine hK.out _ _ ⟨?_, ?_⟩ ?_
  · rw [World.cell?_of_block (a := ⟨bf, 0, none⟩) (Below.heap_setCell _ _ _ bf ne), World.cell?_of_block (a := ⟨bf, 0, none⟩) (Below.heap_setCell _ _ _ bf na)]; exact d0
  · rw [World.cell?_of_block (a := ⟨bf, 1, none⟩) (Below.heap_setCell _ _ _ bf ne), World.cell?_of_block (a := ⟨bf, 1, none⟩) (Below.heap_setCell _ _ _ bf na)]; exact d1
  clear hK K
  refine wpAnyC_done (by kernel_rfl) ?_ _
  refine RestP.normal rfl ⟨⟨?_, ?_, ?_⟩, fun B h1 h2 h3 h4 => ?_⟩
  · exact (hj3.far (p := ⟨ba, 0, none⟩) nja _).far (p := ⟨be, 0, none⟩) nje _
  · exact (ha2.set_ 0 (.int .i64 p)).far (p := ⟨be, 0, none⟩) nae _
  · exact he4.set_ 0 _
  · exact ((hk2.out B h1 h2 h3 h4).setCell (p := ⟨ba, 0, none⟩) h2 _).setCell (p := ⟨be, 0, none⟩) h3 _

/-- how the parsing of a text ends -/
def ParseE (w : World) (r : Jp.Rs JT) (e : Ending) (w' : World) : Prop :=
  Below w.heap.size w w' ∧ match r with
    | .ok j _ => ∃ Ak ck Ad cd, e = .returned (.tuple #[jVal j Ak ck Ad cd, .int .i64 0, .nilIface]) ∧ JInF w' (fun b => w.heap.size ≤ b) 41 j Ak ck Ad
    | .bad p er => e = .returned (.tuple #[.agg (jz 0 0 []), .int .i64 p, .iface 38 (.int .i64 er)])
theorem parse_out {W : World} {bj ba be : Nat} {u0 u1 u2 u3 u4 : Value} {p : Int} {v : Value} {tmps : Array Value} (h2 : tmps.getD 2 undef = .pointer (some ⟨bj, 0, none⟩)) (h3 : tmps.getD 3 undef = .pointer (some ⟨ba, 0, none⟩)) (h4 : tmps.getD 4 undef = .pointer (some ⟨be, 0, none⟩)) (h : PBox W bj ba be #[u0, u1, u2, u3, u4] p v) :
    (results Tryd.f5 tmps).run Tryd.prog W = .ok (.tuple #[.agg #[u0, u1, u2, u3, u4], .int .i64 p, v]) W := by
  simp only [Array.getD_eq_getD_getElem?] at h2 h3 h4
  have c0 := h.j.cell 0
  have c1 := h.j.cell 1
  have c2 := h.j.cell 2
  have c3 := h.j.cell 3
  have c4 := h.j.cell 4
  have ca := h.a.cell 0
  have ce := h.e.cell 0
  simp at ca ce c0 c1 c2 c3 c4
  simp [results, Tryd.results5, h2, h3, h4, c0, c1, c2, c3, c4, ca, ce, go_sem]
/-- the deferred closure -/
abbrev pDef (bj ba be : Nat) : Deferred := { target := .fn (.func 9) #[.pointer (some ⟨bj, 0, none⟩), .pointer (some ⟨ba, 0, none⟩), .pointer (some ⟨be, 0, none⟩)], args := #[] }
theorem parse_bad {w W : World} {bj ba be p er : Nat} {a0 a1 a2 a3 a4 : Value} {p0 : Int} {v0 : Value} {tmps : Array Value} {r : Jp.Rs JT} (hr : r = .bad p er) (h2 : tmps.getD 2 undef = .pointer (some ⟨bj, 0, none⟩)) (h3 : tmps.getD 3 undef = .pointer (some ⟨ba, 0, none⟩)) (h4 : tmps.getD 4 undef = .pointer (some ⟨be, 0, none⟩))
    (h : PBox W bj ba be #[a0, a1, a2, a3, a4] p0 v0) (hb : Below w.heap.size w W) (hn : w.heap.size ≤ bj ∧ w.heap.size ≤ ba ∧ w.heap.size ≤ be) :
    Leaves Tryd.prog Tryd.f5 tmps (ParseE w r) [pDef bj ba be] (.panicking (faultC p er)) W := by
  refine leaves_cons (f := 9) (args := #[.pointer (some ⟨bj, 0, none⟩), .pointer (some ⟨ba, 0, none⟩), .pointer (some ⟨be, 0, none⟩)]) (by simp) (by simp [go_sem]) ?_
  refine (parse_restore h p er).mono ?_
  rintro e u' w'' ⟨rfl, rfl, hB, hk⟩
  refine (show Leaves _ _ _ _ [] .returning w'' from ⟨_, parse_out h2 h3 h4 hB, ?_⟩)
  subst hr
  exact ⟨hb.trans (hk _ hn.1 hn.2.1 hn.2.2 hb.size), rfl⟩
theorem parse_badD {w W : World} {bj ba be p er : Nat} {a0 a1 a2 a3 a4 : Value} {p0 : Int} {v0 : Value} {a : Act} {r : Jp.Rs JT} (hr : r = .bad p er) (hd : a.defers = [pDef bj ba be]) (h2 : a.tmps.getD 2 undef = .pointer (some ⟨bj, 0, none⟩)) (h3 : a.tmps.getD 3 undef = .pointer (some ⟨ba, 0, none⟩)) (h4 : a.tmps.getD 4 undef = .pointer (some ⟨be, 0, none⟩))
    (h : PBox W bj ba be #[a0, a1, a2, a3, a4] p0 v0) (hb : Below w.heap.size w W) (hn : w.heap.size ≤ bj ∧ w.heap.size ≤ ba ∧ w.heap.size ≤ be) :
    bodyPostD Tryd.prog Tryd.f5 (ParseE w r) (.panic (faultC p er)) a W := by
  obtain ⟨tm, df⟩ := a
  dsimp only at hd h2 h3 h4
  subst hd
  exact parse_bad (tmps := tm) hr h2 h3 h4 h hb hn
theorem parse_ok {w W : World} {bj ba be k : Nat} {j : JT} {Ak Ad : Option Addr} {ck cd : Nat} {tmps : Array Value} {r : Jp.Rs JT} (hr : r = .ok j k) (h2 : tmps.getD 2 undef = .pointer (some ⟨bj, 0, none⟩)) (h3 : tmps.getD 3 undef = .pointer (some ⟨ba, 0, none⟩)) (h4 : tmps.getD 4 undef = .pointer (some ⟨be, 0, none⟩))
    (h : PBox W bj ba be #[.int .i64 j.kind, .int .i64 j.num, strV j.text, .slice Ak j.keys.length ck, .slice Ad j.kids.length cd] 0 .nilIface) (hb : Below w.heap.size w W) (hj : JInF W (fun b => w.heap.size ≤ b) 41 j Ak ck Ad) :
    Leaves Tryd.prog Tryd.f5 tmps (ParseE w r) [pDef bj ba be] .returning W := by
  refine leaves_cons (f := 9) (args := #[.pointer (some ⟨bj, 0, none⟩), .pointer (some ⟨ba, 0, none⟩), .pointer (some ⟨be, 0, none⟩)]) (by simp) (by simp [go_sem]) ?_
  refine (parse_idle W).mono ?_
  rintro e u' w'' ⟨rfl, rfl, rfl⟩
  refine (show Leaves _ _ _ _ [] .returning w'' from ⟨_, parse_out h2 h3 h4 h, ?_⟩)
  subst hr
  exact ⟨hb, Ak, ck, Ad, cd, rfl, hj⟩

theorem PBox.below {w w' : World} {bj ba be : Nat} {cj : Array Value} {p : Int} {v : Value} (h : PBox w bj ba be cj p v) (hk : ∀ b, b = bj ∨ b = ba ∨ b = be → w'.heap[b]? = w.heap[b]?) : PBox w' bj ba be cj p v :=
  ⟨(hk bj (.inl rfl)).trans h.j, (hk ba (.inr (.inl rfl))).trans h.a, (hk be (.inr (.inr rfl))).trans h.e⟩
set_option maxHeartbeats 4000000 in
set_option maxRecDepth 100000 in
theorem parse_walk (s : Bs) (hl : s.length ≤ 16777216) (w : World) : Calls Tryd.prog 5 #[.string ⟨s.toArray⟩] w (ParseE w (Jp.parseP s)) := by
  generalize hR : Jp.parseP s = R
  have HR : Hid ((match Jp.valF s 41 0 0 with
    | .bad p e => .bad p e
    | .ok j k => if Jp.skipP s k < s.length then .bad (Jp.skipP s k) 3 else .ok j 0) = R) := hR
  clear hR
  have hb1 : Below w.heap.size w ((((w.alloc (.cells #[.int .i64 0, .int .i64 0, .string ⟨#[]⟩, .slice none 0 0, .slice none 0 0] 25)).alloc (.cells #[.int .i64 0] 3)).alloc (.cells #[.nilIface] 27)).alloc (.cells #[.string ⟨s.toArray⟩, .int .i64 0] 46)) := ((((Below.refl _ _).alloc (Nat.le_refl _) _).alloc (by simp) _).alloc (by simp; omega) _).alloc (by simp; omega) _
  have hB1 : PBox ((((w.alloc (.cells #[.int .i64 0, .int .i64 0, .string ⟨#[]⟩, .slice none 0 0, .slice none 0 0] 25)).alloc (.cells #[.int .i64 0] 3)).alloc (.cells #[.nilIface] 27)).alloc (.cells #[.string ⟨s.toArray⟩, .int .i64 0] 46)) w.heap.size (w.heap.size + 1) (w.heap.size + 1 + 1) #[.int .i64 0, .int .i64 0, .string ⟨#[]⟩, .slice none 0 0, .slice none 0 0] 0 .nilIface :=
    ⟨(((Blk.new _ _ _).alloc _).alloc _).alloc _, by have h := ((Blk.new (w.alloc (.cells #[.int .i64 0, .int .i64 0, .string ⟨#[]⟩, .slice none 0 0, .slice none 0 0] 25)) 3 #[.int .i64 0]).alloc (.cells #[.nilIface] 27)).alloc (.cells #[.string ⟨s.toArray⟩, .int .i64 0] 46); simpa using h,
      by have h := (Blk.new ((w.alloc (.cells #[.int .i64 0, .int .i64 0, .string ⟨#[]⟩, .slice none 0 0, .slice none 0 0] 25)).alloc (.cells #[.int .i64 0] 3)) 27 #[.nilIface]).alloc (.cells #[.string ⟨s.toArray⟩, .int .i64 0] 46); simpa using h⟩
  have hr1 : RdrAt ((((w.alloc (.cells #[.int .i64 0, .int .i64 0, .string ⟨#[]⟩, .slice none 0 0, .slice none 0 0] 25)).alloc (.cells #[.int .i64 0] 3)).alloc (.cells #[.nilIface] 27)).alloc (.cells #[.string ⟨s.toArray⟩, .int .i64 0] 46)) (w.heap.size + 1 + 1 + 1) s 0 := by
    have h := Blk.new (((w.alloc (.cells #[.int .i64 0, .int .i64 0, .string ⟨#[]⟩, .slice none 0 0, .slice none 0 0] 25)).alloc (.cells #[.int .i64 0] 3)).alloc (.cells #[.nilIface] 27)) 46 #[.string ⟨s.toArray⟩, .int .i64 0]
    have e : (((w.alloc (.cells #[.int .i64 0, .int .i64 0, .string ⟨#[]⟩, .slice none 0 0, .slice none 0 0] 25)).alloc (.cells #[.int .i64 0] 3)).alloc (.cells #[.nilIface] 27)).heap.size = w.heap.size + 1 + 1 + 1 := by simp
    rw [e] at h
    exact h
  have hz1 : ((((w.alloc (.cells #[.int .i64 0, .int .i64 0, .string ⟨#[]⟩, .slice none 0 0, .slice none 0 0] 25)).alloc (.cells #[.int .i64 0] 3)).alloc (.cells #[.nilIface] 27)).alloc (.cells #[.string ⟨s.toArray⟩, .int .i64 0] 46)).heap.size = w.heap.size + 1 + 1 + 1 + 1 := by simp
  go_enter_defers Tryd.func5, Tryd.ntmps5
  go_upto_region 3 with fail
  have hn : Hid (w.heap.size ≤ w.heap.size ∧ w.heap.size ≤ w.heap.size + 1 ∧ w.heap.size ≤ w.heap.size + 1 + 1) := ⟨by omega, by omega, by omega⟩
  obtain ⟨bj, hbj⟩ : ∃ b, b = w.heap.size := ⟨_, rfl⟩
  obtain ⟨ba, hba⟩ : ∃ b, b = w.heap.size + 1 := ⟨_, rfl⟩
  obtain ⟨be, hbe⟩ : ∃ b, b = w.heap.size + 1 + 1 := ⟨_, rfl⟩
  obtain ⟨g, hg⟩ : ∃ b, b = w.heap.size + 1 + 1 + 1 := ⟨_, rfl⟩
  have hne : Hid ((bj ≠ g ∧ ba ≠ g ∧ be ≠ g) ∧ (bj ≠ ba ∧ bj ≠ be ∧ ba ≠ be) ∧ (bj < g ∧ ba < g ∧ be < g)) := ⟨⟨by omega, by omega, by omega⟩, ⟨by omega, by omega, by omega⟩, by omega, by omega, by omega⟩
  have hn2 : Hid (w.heap.size ≤ bj ∧ w.heap.size ≤ ba ∧ w.heap.size ≤ be) := ⟨by omega, by omega, by omega⟩
  have hwg : Hid (w.heap.size ≤ g) := by show _ ≤ _; omega
  rw [← hg] at hz1
  rw [← hbe, ← hba, ← hbj] at hB1
  rw [← hg] at hr1
  rw [← hg, ← hbe, ← hba, ← hbj]
  clear hn hbj hba hbe hg
  generalize ((((w.alloc (.cells #[.int .i64 0, .int .i64 0, .string ⟨#[]⟩, .slice none 0 0, .slice none 0 0] 25)).alloc (.cells #[.int .i64 0] 3)).alloc (.cells #[.nilIface] 27)).alloc (.cells #[.string ⟨s.toArray⟩, .int .i64 0] 46)) = w1 at *
  have hv : Calls Tryd.prog 10 #[.pointer (some ⟨g, 0, none⟩), .int .i64 0] w1 (ValE g s w1 41 (Jp.valF s 41 0 0)) := value_walk g s hl 40 0 rfl 0 w1 hr1 (Nat.zero_le _)
  have hva := Jp.val_ahead s 41 0 0 (Nat.zero_le _)
  generalize Jp.valF s 41 0 0 = V at *
  cases V with
  | bad p er =>
    have HB : Hid (R = .bad p er) := HR.out.symm
    go_wp2_with fail
    refine hv.mono ?_
    intro e w2 h2
    obtain ⟨ha2, rfl⟩ := h2.is_bad
    have hB2 := hB1.below fun b hb => ha2.oth b (by have := hB1.j.lt; have := hB1.a.lt; have := hB1.e.lt; omega) (by have := hne.out.1; omega)
    exact parse_badD HB.out rfl rfl rfl rfl hB2 (hb1.trans (ha2.bel.mono hwg.out)) hn2.out
  | ok j k =>
    obtain ⟨_, hk2⟩ := hva
    have HR2 : Hid ((if Jp.skipP s k < s.length then .bad (Jp.skipP s k) 3 else .ok j 0) = R) := HR.out
    go_wp2_with fail
    refine hv.mono ?_
    clear hv HR
    intro e w2 h2
    obtain ⟨ha2, hr2, Ak, ck, Ad, cd, rfl, hj⟩ := h2.is_ok
    clear h2
    have hB2 := hB1.below fun b hb => ha2.oth b (by have := hB1.j.lt; have := hB1.a.lt; have := hB1.e.lt; omega) (by have := hne.out.1; omega)
    have hb2 := hb1.trans (ha2.bel.mono hwg.out)
    clear hB1 hb1 hr1 ha2
    have c0 := hB2.j.cell 0
    have c1 := hB2.j.cell 1
    have c2 := hB2.j.cell 2
    have c3 := hB2.j.cell 3
    have c4 := hB2.j.cell 4
    have f0 := hB2.j.frozen 0
    have f1 := hB2.j.frozen 1
    have f2 := hB2.j.frozen 2
    have f3 := hB2.j.frozen 3
    have f4 := hB2.j.frozen 4
    simp at c0 c1 c2 c3 c4
    have e6 := fun b hb => far5 w2 bj 0 b (.int .i64 j.kind) (.int .i64 j.num) (.string ⟨j.text.toArray⟩) (.slice Ak j.keys.length ck) (.slice Ad j.kids.length cd) hb
    have hj2 := ((((hB2.j.set_ 0 (.int .i64 j.kind)).set_ 1 (.int .i64 j.num)).set_ 2 (.string ⟨j.text.toArray⟩)).set_ 3 (.slice Ak j.keys.length ck)).set_ 4 (.slice Ad j.kids.length cd)
    have hz3 := five_size w2 bj 0 (.int .i64 j.kind) (.int .i64 j.num) (.string ⟨j.text.toArray⟩) (.slice Ak j.keys.length ck) (.slice Ad j.kids.length cd)
    have hB3 : PBox (five w2 bj 0 (.int .i64 j.kind) (.int .i64 j.num) (.string ⟨j.text.toArray⟩) (.slice Ak j.keys.length ck) (.slice Ad j.kids.length cd)) bj ba be #[.int .i64 j.kind, .int .i64 j.num, .string ⟨j.text.toArray⟩, .slice Ak j.keys.length ck, .slice Ad j.kids.length cd] 0 .nilIface :=
      ⟨hj2, (e6 ba (Ne.symm hne.out.2.1.1)).trans hB2.a, (e6 be (Ne.symm hne.out.2.1.2.1)).trans hB2.e⟩
    have hr3 : RdrAt (five w2 bj 0 (.int .i64 j.kind) (.int .i64 j.num) (.string ⟨j.text.toArray⟩) (.slice Ak j.keys.length ck) (.slice Ad j.kids.length cd)) g s k := (e6 g (Ne.symm hne.out.1.1)).trans hr2
    have hb3 : Below w.heap.size w (five w2 bj 0 (.int .i64 j.kind) (.int .i64 j.num) (.string ⟨j.text.toArray⟩) (.slice Ak j.keys.length ck) (.slice Ad j.kids.length cd)) := ((((hb2.setCell (p := ⟨bj, 0, none⟩) hn2.out.1 _).setCell (p := ⟨bj, 0 + 1, none⟩) hn2.out.1 _).setCell (p := ⟨bj, 0 + 2, none⟩) hn2.out.1 _).setCell (p := ⟨bj, 0 + 3, none⟩) hn2.out.1 _).setCell (p := ⟨bj, 0 + 4, none⟩) hn2.out.1 _
    have hjF : JInF (five w2 bj 0 (.int .i64 j.kind) (.int .i64 j.num) (.string ⟨j.text.toArray⟩) (.slice Ak j.keys.length ck) (.slice Ad j.kids.length cd)) (fun b => g < b) 41 j Ak ck Ad := hj.keep (F' := fun b => g < b) ⟨by rw [hz3]; exact Nat.le_refl _, fun b hb _ => e6 b (by have := hne.out.2.2.1; omega)⟩ (fun b hb _ => by omega)
    unfold jVal strV
    go_upto_region 4 with fail
    change Code.wp _ _ _ _ (five w2 bj 0 (.int .i64 j.kind) (.int .i64 j.num) (.string ⟨j.text.toArray⟩) (.slice Ak j.keys.length ck) (.slice Ad j.kids.length cd))
    clear hB2 hb2 hr2 hj hj2 hz3 e6 c0 c1 c2 c3 c4 f0 f1 f2 f3 f4
    generalize five w2 bj 0 (.int .i64 j.kind) (.int .i64 j.num) (.string ⟨j.text.toArray⟩) (.slice Ak j.keys.length ck) (.slice Ad j.kids.length cd) = w3 at *
    have hsk := jskip_walk g s k w3 hr3 hk2 hl
    have hle := Jp.skip_le s k hk2
    generalize Jp.skipP s k = q at *
    go_wp2_with fail
    refine hsk.mono ?_
    clear hsk
    rintro e w4 ⟨rfl, hr4, ha4⟩
    have hB4 := hB3.below fun b hb => ha4.oth b (by have := hB3.j.lt; have := hB3.a.lt; have := hB3.e.lt; omega) (by have := hne.out.1; omega)
    have hb4 := hb3.trans (ha4.bel.mono hwg.out)
    have hj4 := hjF.keep (F' := fun b => g < b) ⟨ha4.bel.size, fun b hb hl => ha4.oth b hl (by omega)⟩ (fun b hb _ => hb)
    clear hB3 hb3 hr3 ha4 hjF
    have c1 := hr4.c1
    by_cases hq : q < s.length
    · have HB : Hid (R = .bad q 3) := by show _ = _; rw [← HR2.out, if_pos hq]
      have hq1 : (q : Int) < (s.length : Int) := by omega
      clear HR2 hq
      go_wp2_with fail
      refine (fail_walk q 3 _).mono ?_
      rintro e w5 ⟨rfl, rfl⟩
      exact parse_badD HB.out rfl rfl rfl rfl hB4 hb4 hn2.out
    · have HB : Hid (R = .ok j 0) := by show _ = _; rw [← HR2.out, if_neg hq]
      have hq1 : ¬ (q : Int) < (s.length : Int) := by omega
      clear HR2 hq
      have c0 := hB4.j.cell 0
      have d1 := hB4.j.cell 1
      have c2 := hB4.j.cell 2
      have c3 := hB4.j.cell 3
      have c4 := hB4.j.cell 4
      have ca := hB4.a.cell 0
      have ce := hB4.e.cell 0
      have f0 := hB4.j.frozen 0
      have f1 := hB4.j.frozen 1
      have f2 := hB4.j.frozen 2
      have f3 := hB4.j.frozen 3
      have f4 := hB4.j.frozen 4
      have fa := hB4.a.frozen 0
      have fe := hB4.e.frozen 0
      simp at c0 d1 c2 c3 c4 ca ce
      have hne1 := hne.out.2.1.1
      have hne2 := hne.out.2.1.2.1
      have hne3 := hne.out.2.1.2.2
      have e6 := fun b hb => far5 w4 bj 0 b (.int .i64 j.kind) (.int .i64 j.num) (.string ⟨j.text.toArray⟩) (.slice Ak j.keys.length ck) (.slice Ad j.kids.length cd) hb
      have hj2 := ((((hB4.j.set_ 0 (.int .i64 j.kind)).set_ 1 (.int .i64 j.num)).set_ 2 (.string ⟨j.text.toArray⟩)).set_ 3 (.slice Ak j.keys.length ck)).set_ 4 (.slice Ad j.kids.length cd)
      have hz3 := five_size w4 bj 0 (.int .i64 j.kind) (.int .i64 j.num) (.string ⟨j.text.toArray⟩) (.slice Ak j.keys.length ck) (.slice Ad j.kids.length cd)
      have hj3 : Blk (five w4 bj 0 (.int .i64 j.kind) (.int .i64 j.num) (.string ⟨j.text.toArray⟩) (.slice Ak j.keys.length ck) (.slice Ad j.kids.length cd)) bj 25 #[.int .i64 j.kind, .int .i64 j.num, .string ⟨j.text.toArray⟩, .slice Ak j.keys.length ck, .slice Ad j.kids.length cd] := hj2
      have ha3 : Blk (five w4 bj 0 (.int .i64 j.kind) (.int .i64 j.num) (.string ⟨j.text.toArray⟩) (.slice Ak j.keys.length ck) (.slice Ad j.kids.length cd)) ba 3 #[.int .i64 0] := (e6 ba (Ne.symm hne1)).trans hB4.a
      have he3 : Blk (five w4 bj 0 (.int .i64 j.kind) (.int .i64 j.num) (.string ⟨j.text.toArray⟩) (.slice Ak j.keys.length ck) (.slice Ad j.kids.length cd)) be 27 #[.nilIface] := (e6 be (Ne.symm hne2)).trans hB4.e
      have hB5 : PBox (((five w4 bj 0 (.int .i64 j.kind) (.int .i64 j.num) (.string ⟨j.text.toArray⟩) (.slice Ak j.keys.length ck) (.slice Ad j.kids.length cd)).setCell ⟨ba, 0, none⟩ (.int .i64 0)).setCell ⟨be, 0, none⟩ .nilIface) bj ba be #[.int .i64 j.kind, .int .i64 j.num, .string ⟨j.text.toArray⟩, .slice Ak j.keys.length ck, .slice Ad j.kids.length cd] 0 .nilIface :=
        ⟨(hj3.far (p := ⟨ba, 0, none⟩) hne1 _).far (p := ⟨be, 0, none⟩) hne2 _, (ha3.set_ 0 (.int .i64 0)).far (p := ⟨be, 0, none⟩) hne3 _, (he3.far (p := ⟨ba, 0, none⟩) (Ne.symm hne3) _).set_ 0 .nilIface⟩
      have hb5 : Below w.heap.size w (((five w4 bj 0 (.int .i64 j.kind) (.int .i64 j.num) (.string ⟨j.text.toArray⟩) (.slice Ak j.keys.length ck) (.slice Ad j.kids.length cd)).setCell ⟨ba, 0, none⟩ (.int .i64 0)).setCell ⟨be, 0, none⟩ .nilIface) := ((((((hb4.setCell (p := ⟨bj, 0, none⟩) hn2.out.1 _).setCell (p := ⟨bj, 0 + 1, none⟩) hn2.out.1 _).setCell (p := ⟨bj, 0 + 2, none⟩) hn2.out.1 _).setCell (p := ⟨bj, 0 + 3, none⟩) hn2.out.1 _).setCell (p := ⟨bj, 0 + 4, none⟩) hn2.out.1 _).setCell (p := ⟨ba, 0, none⟩) hn2.out.2.1 _).setCell (p := ⟨be, 0, none⟩) hn2.out.2.2 _
      have hj5 : JInF (((five w4 bj 0 (.int .i64 j.kind) (.int .i64 j.num) (.string ⟨j.text.toArray⟩) (.slice Ak j.keys.length ck) (.slice Ad j.kids.length cd)).setCell ⟨ba, 0, none⟩ (.int .i64 0)).setCell ⟨be, 0, none⟩ .nilIface) (fun b => w.heap.size ≤ b) 41 j Ak ck Ad := hj4.keep (F' := fun b => w.heap.size ≤ b) ⟨by simp [World.setCell], fun b hb _ => ((Below.heap_setCell _ ⟨be, 0, none⟩ _ b (by have := hne.out.2.2.2.2; show b ≠ be; omega)).trans (Below.heap_setCell _ ⟨ba, 0, none⟩ _ b (by have := hne.out.2.2.2.1; show b ≠ ba; omega))).trans (e6 b (by have := hne.out.2.2.1; omega))⟩ (fun b hb _ => by have := hwg.out; omega)
      clear hj2 hz3 hj3 ha3 he3 e6 hB4 hb4 hj4 hr4
      have HB5 := Lib.hid hB5
      have Hb5 := Lib.hid hb5
      have Hj5 := Lib.hid hj5
      clear hB5 hb5 hj5
      go_wp2_with fail
      exact parse_ok HB.out rfl rfl rfl HB5.out Hb5.out Hj5.out
end Go.Proofs.YtgpjcjnimheglaaDoor
/-
  WALKS of package strconv: FormatInt at base 16, of a byte.
-/
namespace Go.Proofs.YtgpjcjnimheglaaDoor
open Go.RowKit

/-- the table of trailing zeros, at the place that is read for 16 -/
def DB (w : World) : Prop := w.cell? ⟨5, 15, none⟩ = some (.int .u8 4)
theorem DB.lt {w : World} (h : DB w) : 5 < w.heap.size := World.block_lt_of_cell? w ⟨5, 15, none⟩ h
theorem DB.below {w w' : World} (h : DB w) (hb : Below w.heap.size w w') : DB w' := (hb.cell (p := ⟨5, 15, none⟩) h.lt).trans h

set_option maxHeartbeats 1000000 in
set_option maxRecDepth 100000 in
theorem tz_walk (w : World) (hD : DB w) : Calls Tryd.prog 77 #[.int .u64 16] w fun e w' => e = .returned (.int .i64 4) ∧ w' = w := by
  unfold DB at hD
  have hq : IntKind.u64.wrap (bits BinOp.and IntKind.u64 16 (IntKind.u64.wrap (-16)) * 285870213051353865) / 288230376151711744 = 15 := by kernel_rfl
  go_enter Tryd.func77, Tryd.ntmps77
  go_wp2_with fail
  go_ret
  exact ⟨rfl, rfl⟩
set_option maxHeartbeats 1000000 in
set_option maxRecDepth 100000 in
theorem tz0_walk (w : World) (hD : DB w) : Calls Tryd.prog 65 #[.int .u64 16] w fun e w' => e = .returned (.int .i64 4) ∧ w' = w := by
  go_enter Tryd.func65, Tryd.ntmps65
  go_wp2_with fail
  refine (tz_walk w hD).mono ?_
  rintro e w' ⟨rfl, rfl⟩
  go_wp2_with fail
  go_ret
  exact ⟨rfl, rfl⟩
set_option maxHeartbeats 1000000 in
set_option maxRecDepth 100000 in
theorem two_walk (w : World) : Calls Tryd.prog 64 #[.int .i64 16] w fun e w' => e = .returned (.bool true) ∧ w' = w := by
  go_enter Tryd.func64, Tryd.ntmps64
  go_wp2_with fail
  go_ret
  exact ⟨rfl, rfl⟩

theorem dig_at (n : Nat) (h : n < 16) : (((⟨#[48, 49, 50, 51, 52, 53, 54, 55, 56, 57, 97, 98, 99, 100, 101, 102, 103, 104, 105, 106, 107, 108, 109, 110, 111, 112, 113, 114, 115, 116, 117, 118, 119, 120, 121, 122]⟩ : ByteArray)[n]'(by show n < 36; omega)).toNat : Int) = ((Lx.hexD n).toNat : Int) := by
  have h2 : ∀ i : Fin 16, (((⟨#[48, 49, 50, 51, 52, 53, 54, 55, 56, 57, 97, 98, 99, 100, 101, 102, 103, 104, 105, 106, 107, 108, 109, 110, 111, 112, 113, 114, 115, 116, 117, 118, 119, 120, 121, 122]⟩ : ByteArray)[i.val]'(Nat.lt_of_lt_of_le i.isLt (by decide : 16 ≤ 36))).toNat : Int) = ((Lx.hexD i.val).toNat : Int) := by decide +kernel
  exact h2 ⟨n, h⟩
theorem and15 (n : Nat) (h : n < 256) : bits .and .u64 (n : Int) 15 = ((n % 16 : Nat) : Int) := by
  have h2 : ∀ i : Fin 256, bits .and .u64 (i.val : Int) 15 = ((i.val % 16 : Nat) : Int) := by decide +kernel
  exact h2 ⟨n, h⟩
theorem z_size : Tryd.zeroCells95.size = 65 := by kernel_rfl
/-- the last cells of a buffer, as a text -/
theorem buf_str (w : World) (C : Array Value) (o cap : Nat) (l : Bs) (hC : ∀ j (hj : j < l.length), C[o + j]? = some (.int .u8 (l[j].toNat : Int))) :
    (convert 35 9 (.slice (some ⟨w.heap.size, o, none⟩) l.length cap)).run Tryd.prog (w.alloc (.cells C 95)) = .ok (.string ⟨l.toArray⟩) (w.alloc (.cells C 95)) := by
  refine run_convert_bytes_back _ _ _ _ ⟨w.heap.size, o, none⟩ cap l Tryd.underlying35 Tryd.underlying5 Tryd.underlying9 fun j hj => ?_
  have e : (⟨w.heap.size, o, none⟩ : Addr).add j = ⟨w.heap.size, o + j, none⟩ := by unfold Addr.add; split <;> simp_all
  rw [e, (Blk.new w 95 C).cell]
  exact hC j hj

set_option maxHeartbeats 2000000 in
set_option maxRecDepth 100000 in
theorem fbits_walk (n : Nat) (w : World) (hn : n < 256) (hD : DB w) : Calls Tryd.prog 53 #[.slice none 0 0, .int .u64 n, .int .i64 16, .bool false, .bool false] w fun e w' => e = .returned (.tuple #[.slice none 0 0, .string ⟨(Lx.hexS n).toArray⟩]) ∧ Below w.heap.size w w' := by
  have hS : Hid (Lx.hexS n = if n < 16 then [Lx.hexD n] else [Lx.hexD (n / 16), Lx.hexD (n % 16)]) := rfl
  generalize Lx.hexS n = S at *
  go_enter Tryd.func53, Tryd.ntmps53
  go_wp2_with fail
  refine (two_walk _).mono ?_
  rintro e w1 ⟨rfl, rfl⟩
  go_wp2_with fail
  refine (tz0_walk _ (hD.below ((Below.refl _ _).alloc (Nat.le_refl _) _))).mono ?_
  rintro e w1 ⟨rfl, rfl⟩
  go_wp2_with fail
  go_loopw [1, 13] (fun u i wr => (u = .int .u64 n ∧ i = .int .i64 65 ∧ wr = w.alloc (.cells Tryd.zeroCells95 95)) ∨ (16 ≤ n ∧ u = .int .u64 ((n / 16 : Nat) : Int) ∧ i = .int .i64 64 ∧ wr = w.alloc (.cells (Tryd.zeroCells95.setIfInBounds 64 (.int .u8 ((Lx.hexD (n % 16)).toNat : Int))) 95))) (fun _ i _ => (intOf i).toNat)
  case atStart => exact .inl ⟨rfl, rfl, rfl⟩
  case round =>
    rcases hrel with ⟨rfl, rfl, rfl⟩ | ⟨h16, rfl, rfl, rfl⟩
    · by_cases h16 : n < 16
      · have hx := dig_at n h16
        have hd : ¬ (16 : Int) ≤ (n : Int) := by omega
        have hE : Hid (S = [Lx.hexD n]) := by show _ = _; rw [hS.out, if_pos h16]
        have hcv := buf_str w (Tryd.zeroCells95.setIfInBounds 64 (.int .u8 ((Lx.hexD n).toNat : Int))) 64 1 [Lx.hexD n] fun j hj => by
          have : j = 0 := by simpa using hj
          subst this
          rw [Array.getElem?_setIfInBounds_self_of_lt (by rw [z_size]; omega)]
          rfl
        rw [show [Lx.hexD n].length = 1 from rfl] at hcv
        clear hS
        go_wp2_with fail
        go_ret2
        rw [hE.out]
        exact ⟨rfl, (Below.refl _ _).alloc (Nat.le_refl _) _⟩
      · have hx := dig_at (n % 16) (by omega)
        have hd : (16 : Int) ≤ (n : Int) := by omega
        have ha := and15 n hn
        go_wp2_with fail
        go_roundw
        case rel => refine .inr ⟨by omega, ?_, ?_, ?_⟩ <;> first | rfl | trivial | go_num
        case measure => simp [intOf]
    · have hx := dig_at (n / 16) (by omega)
      have hd : ¬ (16 : Int) ≤ ((n / 16 : Nat) : Int) := by omega
      have hE : Hid (S = [Lx.hexD (n / 16), Lx.hexD (n % 16)]) := by show _ = _; rw [hS.out, if_neg (by omega)]
      have hcv := buf_str w ((Tryd.zeroCells95.setIfInBounds 64 (.int .u8 ((Lx.hexD (n % 16)).toNat : Int))).setIfInBounds 63 (.int .u8 ((Lx.hexD (n / 16)).toNat : Int))) 63 2 [Lx.hexD (n / 16), Lx.hexD (n % 16)] fun j hj => by
        have : j = 0 ∨ j = 1 := by simp at hj; omega
        rcases this with rfl | rfl
        · rw [Array.getElem?_setIfInBounds_self_of_lt (by rw [Array.size_setIfInBounds, z_size]; omega)]
          rfl
        · rw [Array.getElem?_setIfInBounds_ne (by omega), Array.getElem?_setIfInBounds_self_of_lt (by rw [z_size]; omega)]
          rfl
      rw [show [Lx.hexD (n / 16), Lx.hexD (n % 16)].length = 2 from rfl] at hcv
      clear hS
      go_wp2_with fail
      go_ret2
      rw [hE.out]
      exact ⟨rfl, (Below.refl _ _).alloc (Nat.le_refl _) _⟩

set_option maxHeartbeats 1000000 in
set_option maxRecDepth 100000 in
theorem fmt16_walk (n : Nat) (w : World) (hn : n < 256) (hD : DB w) : Calls Tryd.prog 35 #[.int .i64 n, .int .i64 16] w fun e w' => e = .returned (.string ⟨(Lx.hexS n).toArray⟩) ∧ Below w.heap.size w w' := by
  have hf : ∀ w, DB w → Calls Tryd.prog 44 #[.int .i64 n, .int .i64 16] w fun e w' => e = .returned (.string ⟨(Lx.hexS n).toArray⟩) ∧ Below w.heap.size w w' := by
    intro w hD
    have h0 : ¬ (n : Int) < 0 := by omega
    go_enter Tryd.func44, Tryd.ntmps44
    go_wp2_with fail
    refine (fbits_walk n _ hn hD).mono ?_
    rintro e w1 ⟨rfl, hb⟩
    go_wp2_with fail
    go_ret
    exact ⟨rfl, hb⟩
  go_enter Tryd.func35, Tryd.ntmps35
  go_wp2_with fail
  refine (hf _ hD).mono ?_
  rintro e w1 ⟨rfl, hb⟩
  go_wp2_with fail
  go_ret
  exact ⟨rfl, hb⟩
end Go.Proofs.YtgpjcjnimheglaaDoor
