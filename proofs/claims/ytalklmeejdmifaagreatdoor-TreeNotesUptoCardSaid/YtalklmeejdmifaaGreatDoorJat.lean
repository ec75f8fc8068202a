/-
  JOINED of the texts YF UN Builder BB
-/
import Derived.Test.YtalklmeejdmifaaGreatDoorJar
import Derived.Test.YtalklmeejdmifaaGreatDoorJas
import Derived.StillTailTactics
import Derived.Handy
import Derived.Deep.RegionHeld3
import Derived.Maps.OwnOps
import Derived.Carry
import Derived.Deep.CutBlock
import Derived.Deep.AppendLies
import Derived.Deep.QuietTactic
import Derived.BigQuiet
import Derived.Lib.RuneBytes
import Derived.Lib.Strings
import Derived.Deep.DeepCutAuto
import Derived.Lib.ConvBytes
import Derived.Laws.Strings3
import Derived.Laws.Closers25
import Derived.Laws.Closers25b
import Derived.BigCall
import Derived.BigGuard
import Derived.Test.YtalklmeejdmifaaGreatDoorShelfX
import Derived.Shelf.Spec.BytesIndexFunc
import Derived.Lib.IndexMore
import Derived.Test.YtalklmeejdmifaaGreatDoorRows
import Derived.WalkKit
import Derived.WalkSpells
import Derived.WalkLawsBesides
import Derived.Below
import Derived.Laws.OwnMore
import Derived.Deep.Draws
import Derived.Lib.Hide
import Derived.IntWalk
import Derived.Test.YtalklmeejdmifaaGreatDoorShelfW
import Derived.Shelf.Strings.SlTrimAscii
import Derived.Lib.LaidTab
import Derived.Lib.AtoiAll
import Derived.Lib.IndexLaws
import Derived.Lib.SlTrimSet
import Derived.Lib.ItoaNum
import Derived.Lib.Atoi
import Derived.WalkMore
import Derived.ScopeJumps
import Derived.Laws.AppendOwnNone
import Derived.Test.YtalklmeejdmifaaGreatDoorJaq
import Derived.Test.YtalklmeejdmifaaGreatDoorJaa
import Derived.Test.YtalklmeejdmifaaGreatDoorShelf
import Derived.Shelf.Strings.Builder1
import Derived.Test.YtalklmeejdmifaaGreatDoorJab
/-
  WALKS of package tree: Notes' closure that tells of a part.
-/
namespace Go.Proofs.YtalklmeejdmifaaGreatDoor
open Go.RowKit

theorem Tr.oks_mem {b : Nat} : ∀ (l : List Tr.PT) (a : Nat), Tr.oksP b l a → ∀ p ∈ l, ∃ a', Tr.okP b p a' ∧ a' + Tr.wideP p ≤ a + Tr.widesP l
  | [], _, _, p, hp => absurd hp (by simp)
  | q :: l, a, h, p, hp => by
    unfold Tr.oksP at h
    unfold Tr.widesP
    rcases List.mem_cons.1 hp with rfl | hp
    · exact ⟨a, h.1, by omega⟩
    · obtain ⟨a', h1, h2⟩ := Tr.oks_mem l _ h.2 p hp
      rw [Tr.put_end] at h2
      exact ⟨a', h1, by omega⟩
theorem Tr.ok_nums {b a N : Nat} {p : Tr.PT} (h : Tr.okP b p a) (hN : a + Tr.wideP p ≤ N) : b + p.from_ ≤ N ∧ b + p.to_ ≤ N ∧ 0 ≤ Tr.startOf p ∧ (b : Int) + Tr.startOf p ≤ N := by
  have h1 := Tr.ok_from h
  have h2 := Tr.ok_to p a h
  have h3 := Tr.start_put p a h
  obtain ⟨_, h4, _, _⟩ := Tr.put_in p a (N : Int) (by omega)
  refine ⟨by omega, by omega, ?_, ?_⟩
  · unfold Tr.startOf Tr.startI
    split <;> omega
  · unfold Tr.startOf Tr.startI
    rcases h3 with ⟨h5, h6⟩ | ⟨h5, h6⟩
    · rw [if_pos (by omega)]; omega
    · rw [if_neg (by omega)]; omega
/-- the parts of which Notes tells, whose kid begins at b -/
def NtQ (b : Nat) (p : Tr.PT) : Prop := Tr.wfP p ∧ ∃ a, Tr.okP b p a ∧ a + Tr.wideP p ≤ 1000000000
theorem NtQ.sub {b k a : Nat} {l : List Tr.PT} (h : NtQ b (.branch k a l)) : l.length ≤ 1000000000 ∧ ∀ p ∈ l, NtQ b p := by
  obtain ⟨hw, a', ho, hn⟩ := h
  unfold Tr.wfP at hw
  unfold Tr.okP at ho
  unfold Tr.wideP at hn
  refine ⟨hw.2.1, fun p hp => ⟨wfs_mem l hw.2.2 p hp, ?_⟩⟩
  obtain ⟨a2, h1, h2⟩ := Tr.oks_mem l a' ho.2.1 p hp
  exact ⟨a2, h1, by omega⟩
theorem infoNote : (Tryz.prog.info? 50).map (fun i => (i.zero, i.size, i.bytes)) = some (some (.agg #[.int .i64 0, .int .i64 0, .int .i64 0]), 3, 24) := by kernel_rfl
/-- notes as cells -/
def ntC : List Tr.Nt → List Value
  | [] => []
  | n :: l => .int .i64 n.1 :: .int .i64 n.2.1 :: .int .i64 (n.2.2 : Int) :: ntC l
theorem ntC_snoc (l : List Tr.Nt) (f t : Int) (e : Nat) : ntC (l ++ [(f, t, e)]) = ntC l ++ [.int .i64 f, .int .i64 t, .int .i64 (e : Int)] := by
  induction l with
  | nil => rfl
  | cons n l ih => simp only [List.cons_append, ntC, ih]
theorem ntC_len (l : List Tr.Nt) : (ntC l).length = l.length * 3 := by
  induction l with
  | nil => rfl
  | cons n l ih => simp only [ntC, List.length_cons, ih]; omega
/-- the box in which Notes keeps what it has told -/
structure NtB (w : World) (B ob : Nat) (out : List Tr.Nt) (A : Option Addr) (c : Nat) : Prop where
  blk : Blk w ob 31 #[.slice A out.length c]
  own : w.ownsRow B 50 3 (.slice A out.length c) out.length (ntC out)
def NtI (w0 : World) (ob : Nat) (out : List Tr.Nt) (w : World) : Prop := (∃ A c, NtB w w0.heap.size ob out A c) ∧ w0.heap.size ≤ ob ∧ Below w0.heap.size w0 w
theorem NtB.below {w w' : World} {B ob : Nat} {out : List Tr.Nt} {A : Option Addr} {c : Nat} (h : NtB w B ob out A c) (hb : Below w.heap.size w w') : NtB w' B ob out A c :=
  ⟨h.blk.below hb h.blk.lt, own_of_block h.own fun y hy => hb.block y (h.own.lt y hy).2⟩
/-- what one note more makes of it -/
theorem nt_push {w0 w w5 : World} {ob : Nat} {out : List Tr.Nt} {A : Option Addr} {c gg cap : Nat} {f t : Int} {e : Nat}
    (hN : NtB w w0.heap.size ob out A c) (hob : w0.heap.size ≤ ob) (hd : Below w0.heap.size w0 w)
    (hown5 : w5.ownsRow w0.heap.size 50 3 (.slice (some ⟨gg, 0, none⟩) (out.length + 1) cap) (out.length + 1) (ntC out ++ [.int .i64 f, .int .i64 t, .int .i64 (e : Int)]))
    (hgrow : (w.alloc (.cells #[.int .i64 f, .int .i64 t, .int .i64 (e : Int)] 50)).grownBy w5 (Value.slice A out.length c).ownBlock) :
    w5.cell? ⟨ob, 0, none⟩ = some (.slice A out.length c) ∧ w5.frozen? ⟨ob, 0, none⟩ = false ∧ NtI w0 ob (out ++ [(f, t, e)]) (w5.setCell ⟨ob, 0, none⟩ (.slice (some ⟨gg, 0, none⟩) (out.length + 1) cap)) ∧ KeepX [31, 50] w (w5.setCell ⟨ob, 0, none⟩ (.slice (some ⟨gg, 0, none⟩) (out.length + 1) cap)) := by
  have hb5 := (hN.blk.alloc (.cells #[.int .i64 f, .int .i64 t, .int .i64 (e : Int)] 50)).grown hgrow (own_ne hN.own hN.blk (by decide))
  have hne := own_ne hown5 hb5 (by decide)
  have hb6 := hb5.set_ 0 (.slice (some ⟨gg, 0, none⟩) (out.length + 1) cap)
  simp at hb6
  have hlen : (out ++ [(f, t, e)]).length = out.length + 1 := by simp
  refine ⟨by have := hb5.cell 0; simpa using this, hb5.frozen 0, ⟨⟨some ⟨gg, 0, none⟩, cap, ?_, ?_⟩, hob, ?_⟩, ?_⟩
  · rw [hlen]; exact hb6
  · rw [hlen, ntC_snoc]
    exact own_of_block hown5 fun y hy => Below.heap_setCell w5 ⟨ob, 0, none⟩ _ y (fun e => hne (by have e : y = ob := e; rw [← e]; exact hy.symm))
  · exact ((hd.alloc hd.size _).grown hgrow (by have := hd.size; simp; omega) (fun y hy => (hN.own.lt y hy).1)).setCell (p := ⟨ob, 0, none⟩) hob _
  · refine (((KeepX.refl _ w).alloc _).grown hgrow fun g hg => ?_).setCell (p := ⟨ob, 0, none⟩) hb5 (by simp) _
    obtain ⟨cs, fr, hh⟩ := own_ty hN.own g hg
    exact ⟨cs, _, fr, (Below.heap_alloc w _ g (lt_heap hh)).trans hh, by simp⟩
theorem nt_lit (w : World) (f t e : Value) : ∀ j u, [f, t, e][j]? = some u → (w.alloc (.cells #[f, t, e] 50)).cell? (Addr.add ⟨w.heap.size, 0, none⟩ j) = some u := World.news_of_block (cs := #[f, t, e]) (t := 50) (fr := (0, 0)) (heap_alloc_new w _)
/-- what the closure does -/
def NoteE (w0 w : World) (ob : Nat) (out : List Tr.Nt) (e : Ending) (w' : World) : Prop := e = .returned (.tuple #[]) ∧ NtI w0 ob out w' ∧ KeepX [31, 50] w w'

set_option maxHeartbeats 4000000 in
set_option maxRecDepth 100000 in
theorem note_leaf {w0 w : World} {F : Nat → Prop} {ob b q k x : Nat} {t : Bs} {out : List Tr.Nt} (hp : PtF w0 F (.leaf k t x) (.iface 104 (.pointer (some ⟨q, 0, none⟩)))) (hQ : NtQ b (.leaf k t x)) (hI : NtI w0 ob out w) (hl : out.length ≤ 1000000000) :
    Calls Tryz.prog 45 #[.int .i64 (b : Int), .iface 104 (.pointer (some ⟨q, 0, none⟩)), .pointer (some ⟨ob, 0, none⟩)] w (NoteE w0 w ob (Tr.stepN b (.leaf k t x) out)) := by
  obtain ⟨i0, ji, jz0, jz1, jz2⟩ := info_parts infoNote
  obtain ⟨⟨A, c, hN⟩, hob, hd⟩ := hI
  have hw := hQ.1
  obtain ⟨_, a, ho, hn⟩ := hQ
  obtain ⟨n1, n2, n5, n6⟩ := Tr.ok_nums ho hn
  obtain ⟨t1, q1, f1, e1, fn1, fm1, fc1, fcl⟩ := hp.from_
  injection e1 with e1 e1'
  subst e1
  obtain rfl : q = q1 := by simpa using e1'
  clear e1'
  obtain ⟨t2, q2, f2, e2, tn1, tm1, tc1, tcl⟩ := to_all _ hw w0 F _ hp (by omega)
  injection e2 with e2 e2'
  subst e2
  obtain rfl : q = q2 := by simpa using e2'
  clear e2'
  have fcl := fcl w hd
  have tcl := tcl w hd
  unfold ToE at tcl
  have n3 : Tr.PT.to_ (.leaf k t x) = x + t.length := by unfold Tr.PT.to_; rfl
  have n4 : Tr.PT.from_ (.leaf k t x) = x := rfl
  rw [n3] at n2 tcl
  rw [n4] at n1 fcl
  obtain ⟨q', e0, hF, hB⟩ := hp
  injection e0 with _ e0
  obtain rfl : q = q' := by simpa using e0
  have k0 := (hB.below hd hB.lt).cell 0
  simp at k0
  have HP : Hid (Tr.stepN b (.leaf k t x) out = out ++ (if k = 8 then [((b : Int) + (x : Int), (b : Int) + ((x + t.length : Nat) : Int), 3)] else [])) := by
    show _ = _
    unfold Tr.stepN
    rw [Tr.note_leaf]
    simp only [Int.natCast_add]
  have has := fun w => as_leaf_leaf ⟨q, 0, none⟩ w
  clear n3 n4 n5 n6 e0 hF hB
  generalize Tr.stepN b (.leaf k t x) out = res at *
  generalize x + t.length = y at *
  have a0 : IntKind.i64.wrap ((b : Int) + (x : Int)) = (b : Int) + (x : Int) := IntWalk.i64_in _ (by omega)
  have a1 : IntKind.i64.wrap ((b : Int) + (y : Int)) = (b : Int) + (y : Int) := IntWalk.i64_in _ (by omega)
  have Hl := Lib.hid hl
  have Hob := Lib.hid hob
  clear n1 n2 ho hn hw hl
  go_enter Tryz.func45, Tryz.ntmps45
  go_wp2_with fail
  refine fcl.mono ?_
  clear fcl
  rintro e w' ⟨rfl, rfl⟩
  go_wp2_with fail
  refine tcl.mono ?_
  clear tcl
  rintro e w2 ⟨rfl, n, rfl⟩
  have hk0 : KeepX [31, 50] w' (w'.drewN n) := (KeepX.refl _ _).drewN n
  have hN := hN.below (below_drewN (Below.refl _ _) n)
  have hd := below_drewN hd n
  have k0 : (w'.drewN n).cell? ⟨q, 0, none⟩ = some (.int .i64 (k : Int)) := k0
  generalize w'.drewN n = w2 at *
  have hNc := hN.blk.cell 0
  simp at hNc
  by_cases hk : k = 8
  · have HP : Hid (res = out ++ [((b : Int) + (x : Int), (b : Int) + (y : Int), 3)]) := by show _ = _; rw [HP.out, if_pos hk]
    have e8 : ((k : Int) == 8) = true := by simp; omega
    clear hk
    go_wp2_with (at_builtin; refine wpList_append_lies _ rfl _ _ 31 rfl w0.heap.size 50 i0 _ 3 24 Tryz.underlying31 ji jz0 jz1 jz2 rfl (by omega) (.slice A out.length c) out.length (ntC out) rfl (hN.own.alloc _) ⟨w2.heap.size, 0, none⟩ 1 1 [.int .i64 ((b : Int) + (x : Int)), .int .i64 ((b : Int) + (y : Int)), .int .i64 3] rfl rfl (nt_lit w2 _ _ _) (by simp [Value.oneCell']) (by omega) (by have := Hl.out; unfold maxLen; omega) (by have := Hl.out; omega) (by have := hd.size; simp; omega) (w2.heap.size + 1) (by simp) ?_; intro gg cap' w5 hown5 hgrow hat hlt5; obtain ⟨p0, pf, hI5, hK5⟩ := nt_push hN Hob.out hd hown5 hgrow)
    go_end0
    exact ⟨rfl, by rw [HP.out]; exact hI5, hk0.trans hK5⟩
  · have HP : Hid (res = out) := by show _ = _; rw [HP.out, if_neg hk, List.append_nil]
    have e8 : ((k : Int) == 8) = false := by simp; omega
    clear hk
    go_wp2_with fail
    go_end0
    exact ⟨rfl, by rw [HP.out]; exact ⟨⟨A, c, hN⟩, Hob.out, hd⟩, hk0⟩

set_option maxHeartbeats 4000000 in
set_option maxRecDepth 100000 in
theorem note_gap {w0 w : World} {F : Nat → Prop} {ob b q x : Nat} {t : Bs} {dp : Bool} {out : List Tr.Nt} (hp : PtF w0 F (.gap t x dp) (.iface 107 (.pointer (some ⟨q, 0, none⟩)))) (hQ : NtQ b (.gap t x dp)) (hI : NtI w0 ob out w) (hl : out.length ≤ 1000000000) :
    Calls Tryz.prog 45 #[.int .i64 (b : Int), .iface 107 (.pointer (some ⟨q, 0, none⟩)), .pointer (some ⟨ob, 0, none⟩)] w (NoteE w0 w ob (Tr.stepN b (.gap t x dp) out)) := by
  obtain ⟨i0, ji, jz0, jz1, jz2⟩ := info_parts infoNote
  obtain ⟨⟨A, c, hN⟩, hob, hd⟩ := hI
  have hw := hQ.1
  obtain ⟨_, a, ho, hn⟩ := hQ
  obtain ⟨n1, n2, n5, n6⟩ := Tr.ok_nums ho hn
  obtain ⟨t1, q1, f1, e1, fn1, fm1, fc1, fcl⟩ := hp.from_
  injection e1 with e1 e1'
  subst e1
  obtain rfl : q = q1 := by simpa using e1'
  clear e1'
  obtain ⟨t2, q2, f2, e2, tn1, tm1, tc1, tcl⟩ := to_all _ hw w0 F _ hp (by omega)
  injection e2 with e2 e2'
  subst e2
  obtain rfl : q = q2 := by simpa using e2'
  clear e2'
  have fcl := fcl w hd
  have tcl := tcl w hd
  unfold ToE at tcl
  have n3 : Tr.PT.to_ (.gap t x dp) = x := by unfold Tr.PT.to_; rfl
  have n4 : Tr.PT.from_ (.gap t x dp) = x := rfl
  rw [n3] at n2 tcl
  rw [n4] at n1 fcl
  have HP : Hid (Tr.stepN b (.gap t x dp) out = out ++ [((b : Int) + (x : Int), (b : Int) + (x : Int), 9)]) := by
    show _ = _
    unfold Tr.stepN
    rw [Tr.note_gap]
    simp only [Int.natCast_add]
  have has1 := fun w => as_gap_leaf ⟨q, 0, none⟩ w
  have has2 := fun w => as_gap_gap ⟨q, 0, none⟩ w
  clear n3 n4 n5 n6 hp
  generalize Tr.stepN b (.gap t x dp) out = res at *
  have a0 : IntKind.i64.wrap ((b : Int) + (x : Int)) = (b : Int) + (x : Int) := IntWalk.i64_in _ (by omega)
  have a1 : IntKind.i64.wrap ((b : Int) + (x : Int)) = (b : Int) + (x : Int) := IntWalk.i64_in _ (by omega)
  have Hl := Lib.hid hl
  have Hob := Lib.hid hob
  clear n1 n2 ho hn hw hl
  go_enter Tryz.func45, Tryz.ntmps45
  go_wp2_with fail
  refine fcl.mono ?_
  clear fcl
  rintro e w' ⟨rfl, rfl⟩
  go_wp2_with fail
  refine tcl.mono ?_
  clear tcl
  rintro e w2 ⟨rfl, n, rfl⟩
  have hk0 : KeepX [31, 50] w' (w'.drewN n) := (KeepX.refl _ _).drewN n
  have hN := hN.below (below_drewN (Below.refl _ _) n)
  have hd := below_drewN hd n
  generalize w'.drewN n = w2 at *
  have hNc := hN.blk.cell 0
  simp at hNc
  go_wp2_with (at_builtin; refine wpList_append_lies _ rfl _ _ 31 rfl w0.heap.size 50 i0 _ 3 24 Tryz.underlying31 ji jz0 jz1 jz2 rfl (by omega) (.slice A out.length c) out.length (ntC out) rfl (hN.own.alloc _) ⟨w2.heap.size, 0, none⟩ 1 1 [.int .i64 ((b : Int) + (x : Int)), .int .i64 ((b : Int) + (x : Int)), .int .i64 9] rfl rfl (nt_lit w2 _ _ _) (by simp [Value.oneCell']) (by omega) (by have := Hl.out; unfold maxLen; omega) (by have := Hl.out; omega) (by have := hd.size; simp; omega) (w2.heap.size + 1) (by simp) ?_; intro gg cap' w5 hown5 hgrow hat hlt5; obtain ⟨p0, pf, hI5, hK5⟩ := nt_push hN Hob.out hd hown5 hgrow)
  go_end0
  exact ⟨rfl, by rw [HP.out]; exact hI5, hk0.trans hK5⟩

set_option maxHeartbeats 4000000 in
set_option maxRecDepth 100000 in
theorem note_branch {w0 w : World} {F : Nat → Prop} {ob b q k x : Nat} {l : List Tr.PT} {out : List Tr.Nt} (hp : PtF w0 F (.branch k x l) (.iface 90 (.pointer (some ⟨q, 0, none⟩)))) (hQ : NtQ b (.branch k x l)) (hI : NtI w0 ob out w) (hl : out.length ≤ 1000000000) :
    Calls Tryz.prog 45 #[.int .i64 (b : Int), .iface 90 (.pointer (some ⟨q, 0, none⟩)), .pointer (some ⟨ob, 0, none⟩)] w (NoteE w0 w ob (Tr.stepN b (.branch k x l) out)) := by
  obtain ⟨i0, ji, jz0, jz1, jz2⟩ := info_parts infoNote
  obtain ⟨⟨A, c, hN⟩, hob, hd⟩ := hI
  have hw := hQ.1
  obtain ⟨_, a, ho, hn⟩ := hQ
  obtain ⟨n1, n2, n5, n6⟩ := Tr.ok_nums ho hn
  obtain ⟨t1, q1, f1, e1, fn1, fm1, fc1, fcl⟩ := hp.from_
  injection e1 with e1 e1'
  subst e1
  obtain rfl : q = q1 := by simpa using e1'
  clear e1'
  obtain ⟨t2, q2, f2, e2, tn1, tm1, tc1, tcl⟩ := to_all _ hw w0 F _ hp (by omega)
  injection e2 with e2 e2'
  subst e2
  obtain rfl : q = q2 := by simpa using e2'
  clear e2'
  have fcl := fcl w hd
  have tcl := tcl w hd
  unfold ToE at tcl
  have hst := fun w' hb => start_walkT (w := w') hw hp (by omega) hb
  obtain ⟨q', e0, hF, _, _, _, hB, _⟩ := hp
  injection e0 with _ e0
  obtain rfl : q = q' := by simpa using e0
  have k0 := (hB.below hd hB.lt).cell 0
  simp at k0
  have HP : Hid (Tr.stepN b (.branch k x l) out = out ++ (if k = 5 then [((b : Int) + Tr.startOf (.branch k x l), (b : Int) + ((Tr.PT.to_ (.branch k x l) : Nat) : Int), 3)] else [])) := by
    show _ = _
    unfold Tr.stepN
    rw [Tr.note_branch]
    simp only [Int.natCast_add]
  have has1 := fun w => as_branch_leaf ⟨q, 0, none⟩ w
  have has2 := fun w => as_branch_gap ⟨q, 0, none⟩ w
  have has3 := fun w => as_branch_branch ⟨q, 0, none⟩ w
  clear e0 hF hB
  generalize Tr.stepN b (.branch k x l) out = res at *
  generalize Tr.startOf (.branch k x l) = so at *
  generalize Tr.PT.to_ (.branch k x l) = y at *
  generalize Tr.PT.from_ (.branch k x l) = z at *
  have a2 : IntKind.i64.wrap ((b : Int) + so) = (b : Int) + so := IntWalk.i64_in _ (by omega)
  have a0 : IntKind.i64.wrap ((b : Int) + (z : Int)) = (b : Int) + (z : Int) := IntWalk.i64_in _ (by omega)
  have a1 : IntKind.i64.wrap ((b : Int) + (y : Int)) = (b : Int) + (y : Int) := IntWalk.i64_in _ (by omega)
  have Hl := Lib.hid hl
  have Hob := Lib.hid hob
  clear n1 n2 n5 n6 ho hn hw hl
  go_enter Tryz.func45, Tryz.ntmps45
  go_wp2_with fail
  refine fcl.mono ?_
  clear fcl
  rintro e w' ⟨rfl, rfl⟩
  go_wp2_with fail
  refine tcl.mono ?_
  clear tcl
  rintro e w2 ⟨rfl, n, rfl⟩
  have hk0 : KeepX [31, 50] w' (w'.drewN n) := (KeepX.refl _ _).drewN n
  have hN := hN.below (below_drewN (Below.refl _ _) n)
  have hd := below_drewN hd n
  have k0 : (w'.drewN n).cell? ⟨q, 0, none⟩ = some (.int .i64 (k : Int)) := k0
  generalize w'.drewN n = w2 at *
  by_cases hk : k = 5
  · have HP : Hid (res = out ++ [((b : Int) + so, (b : Int) + (y : Int), 3)]) := by show _ = _; rw [HP.out, if_pos hk]
    have e8 : ((k : Int) == 5) = true := by simp; omega
    clear hk
    go_upto_region 12 with fail
    refine wp_region_G 10 (fun w' : World => w'.cell? ⟨ob, 0, none⟩ = some (.slice A out.length c)) (by kernel_rfl) ?_
    have hk0 := hk0.drew
    have hN := hN.below ((Below.refl w2.heap.size w2).drew)
    have hd := hd.drew
    clear k0
    generalize w2.drew = w2 at *
    have n3 := hN.blk.cell 0
    simp at n3
    have hS0 : (fun w' : World => w'.cell? ⟨ob, 0, none⟩ = some (.slice A out.length c)) w2 := n3
    refine wpAnyG_take (i := 0) (v := ?_) rfl (by kernel_rfl) (by kernel_rfl) (by kernel_rfl) (by kernel_rfl) (fun _ _ _ h => h) (Or.inl ⟨by rfl, ?_⟩) hS0 ?_; rotate_left; · (intro w hSw; (try dsimp only at hSw); have s0 := hSw; go_simp; try with_reducible rfl)
    simp only [Act.put, List.setIfInBounds_toArray]
    refine wpAnyG_take (i := 1) (v := ?_) rfl (by kernel_rfl) (by kernel_rfl) (by kernel_rfl) (by kernel_rfl) (fun _ _ _ h => h) (Or.inl ⟨by rfl, ?_⟩) hS0 ?_; rotate_left; · (intro w hSw; (try dsimp only at hSw); have s0 := hSw; go_simp; try with_reducible rfl)
    simp only [Act.put]
    refine wpAnyG_take (i := 2) (v := ?_) rfl (by kernel_rfl) (by kernel_rfl) (by kernel_rfl) (by kernel_rfl) (fun _ _ _ h => h) (Or.inl ⟨by rfl, ?_⟩) hS0 ?_; rotate_left; · (intro w hSw; (try dsimp only at hSw); have s0 := hSw; go_simp; try with_reducible rfl)
    simp only [Act.put]
    refine wpAnyG_take (i := 3) (v := ?_) rfl (by kernel_rfl) (by kernel_rfl) (by kernel_rfl) (by kernel_rfl) (fun _ _ _ h => h) (Or.inl ⟨by rfl, ?_⟩) hS0 ?_; rotate_left; · (intro w hSw; (try dsimp only at hSw); have s0 := hSw; go_simp; try with_reducible rfl)
    simp only [Act.put]
    refine wpAnyG_take (i := 6) (v := ?_) rfl (by kernel_rfl) (by kernel_rfl) (by kernel_rfl) (by kernel_rfl) (fun _ _ _ h => h) (Or.inl ⟨by rfl, ?_⟩) hS0 ?_; rotate_left; · (intro w hSw; (try dsimp only at hSw); have s0 := hSw; go_simp; try with_reducible rfl)
    simp only [Act.put]
    clear hS0
    have hst := hst w2 hd
    refine wpAnyG_one (i := 4) (by kernel_rfl) rfl (fun C hC => ?_)
    go_simp
    ((with_reducible refine hst.mono ?_))
    clear hst n3
    rintro e w3 ⟨rfl, hb3⟩
    have hN := hN.below hb3
    have hk0 := hk0.trans (KeepX.below (KeepX.refl _ _) hb3 (Nat.le_refl _))
    have hd := hd.trans (hb3.mono hd.size)
    have n3 := hN.blk.cell 0
    simp at n3
    refine hC.out _ _ (fun _ => n3) ?_
    clear hC C
    refine wpAnyG_one (i := 5) (by kernel_rfl) rfl (fun C hC => ?_)
    go_simp
    refine hC.out _ _ (fun _ => n3) ?_
    clear hC C
    refine wpAnyG_one (i := 7) (by kernel_rfl) rfl (fun C hC => ?_)
    go_simp
    refine hC.out _ _ (fun _ => n3) ?_
    clear hC C
    refine wpAnyG_one (i := 8) (by kernel_rfl) rfl (fun C hC => ?_)
    go_simp
    refine hC.out _ _ (fun _ => (cell_alloc _ _ _ _ hN.blk.lt).trans n3) ?_
    clear hC C
    refine wpAnyG_one (i := 9) (by kernel_rfl) rfl (fun C hC => ?_)
    refine step_append_lies _ (by rfl) _ _ _ (by rfl) w0.heap.size 50 i0 _ 3 24 Tryz.underlying31 ji jz0 jz1 jz2 rfl (by omega) (.slice A out.length c) out.length (ntC out) (by rfl) (hN.own.alloc _) ⟨w3.heap.size, 0, none⟩ 1 1 [.int .i64 ((b : Int) + so), .int .i64 ((b : Int) + (y : Int)), .int .i64 3] (by rfl) (by rfl) (nt_lit w3 _ _ _) (by simp [Value.oneCell']) (by omega) (by have := Hl.out; unfold maxLen; omega) (by have := Hl.out; omega) (by have := hd.size; simp; omega) (w3.heap.size + 1) (by simp) ?_
    intro gg cap' w5 hown5 hgrow hat hlt5
    obtain ⟨p0, pf, hI5, hK5⟩ := nt_push hN Hob.out hd hown5 hgrow
    refine hC.out _ _ (fun _ => p0) ?_
    clear hC C
    refine wpAnyG_one (i := 10) (by kernel_rfl) rfl (fun C hC => ?_)
    go_simp
    refine hC.out _ _ (fun h => absurd rfl h) ?_
    clear hC C
    refine wpAnyG_done (by kernel_rfl) ?_ _
    clear hN hown5 hgrow hat hlt5 p0 pf
    go_wp2_with fail
    go_end0
    exact ⟨rfl, by rw [HP.out]; exact hI5, hk0.trans hK5⟩
  · have HP : Hid (res = out) := by show _ = _; rw [HP.out, if_neg hk, List.append_nil]
    have e8 : ((k : Int) == 5) = false := by simp; omega
    clear hk
    go_wp2_with fail
    go_end0
    exact ⟨rfl, by rw [HP.out]; exact ⟨⟨A, c, hN⟩, Hob.out, hd⟩, hk0⟩
theorem note_any {w0 w : World} {F : Nat → Prop} {ob b : Nat} {p : Tr.PT} {v : Value} {out : List Tr.Nt} (hp : PtF w0 F p v) (hQ : NtQ b p) (hI : NtI w0 ob out w) (hl : out.length ≤ 1000000000) :
    Calls Tryz.prog 45 #[.int .i64 (b : Int), v, .pointer (some ⟨ob, 0, none⟩)] w (NoteE w0 w ob (Tr.stepN b p out)) := by
  cases p with
  | leaf k t x =>
    have hp0 := hp
    obtain ⟨g, rfl, _⟩ := hp0
    exact note_leaf hp hQ hI hl
  | gap t x d =>
    have hp0 := hp
    obtain ⟨g, rfl, _⟩ := hp0
    exact note_gap hp hQ hI hl
  | branch k x l =>
    have hp0 := hp
    obtain ⟨g, rfl, _⟩ := hp0
    exact note_branch hp hQ hI hl
end Go.Proofs.YtalklmeejdmifaaGreatDoor
/-
  WALKS: amanuensissame.Node: the program's tree and the document's.
-/
namespace Go.Proofs.YtalklmeejdmifaaGreatDoor
open Go.RowKit

section
variable {w w' : World} {F F' : Nat → Prop}
theorem NdsF.at_ : ∀ {l : List Tr.PT} {vs : List Value} {i : Nat}, NdsF w F l vs → ∀ (h : i < l.length), ∃ (a b : Nat) (t : Bs) (A : Option Addr) (n : Nat), vs[i * 4]? = some (.int .i64 (a : Int)) ∧ vs[i * 4 + 1]? = some (.int .i64 (b : Int)) ∧ vs[i * 4 + 2]? = some (.string ⟨t.toArray⟩) ∧ vs[i * 4 + 3]? = some (.slice A n n) ∧ NdF w F l[i] [.int .i64 (a : Int), .int .i64 (b : Int), .string ⟨t.toArray⟩, .slice A n n]
  | [], _, _, _, h => absurd h (by simp)
  | p :: l, vs, 0, hp, _ => by
    obtain ⟨v, vs', rfl, h, _⟩ := hp
    obtain ⟨a, b, t, A, n, rfl⟩ := h.form
    exact ⟨a, b, t, A, n, rfl, rfl, rfl, rfl, h⟩
  | p :: l, vs, i + 1, hp, h => by
    obtain ⟨v, vs', rfl, hv, hl⟩ := hp
    obtain ⟨a, b, t, A, n, rfl⟩ := hv.form
    obtain ⟨a', b', t', A', n', h0, h1, h2, h3, h4⟩ := NdsF.at_ (i := i) hl (by simpa using h)
    exact ⟨a', b', t', A', n', by rw [Nat.succ_mul]; exact h0, by rw [Nat.succ_mul]; exact h1, by rw [Nat.succ_mul]; exact h2, by rw [Nat.succ_mul]; exact h3, h4⟩
theorem NdsF.len : ∀ {l : List Tr.PT} {vs : List Value}, NdsF w F l vs → vs.length = l.length * 4
  | [], vs, h => by have : vs = [] := h; subst this; rfl
  | p :: l, vs, h => by
    obtain ⟨v, vs', rfl, hv, hl⟩ := h
    obtain ⟨a, b, t, A, n, rfl⟩ := hv.form
    have := NdsF.len hl
    simp only [List.length_append, List.length_cons, List.length_nil]
    omega
theorem NpsF.at_ : ∀ {l : List Tr.PT} {a : Nat} {fps : List Nat} {vs : List Value} {i : Nat}, NpsF w F l a fps vs → ∀ (h : i < l.length), ∃ q a' fp, vs[i]? = some (.pointer (some ⟨q, 0, none⟩)) ∧ NpF w F l[i] a' fp (.pointer (some ⟨q, 0, none⟩))
  | [], _, _, _, _, _, h => absurd h (by simp)
  | p :: l, a, fps, vs, 0, hp, _ => by
    obtain ⟨fp, fps', v, vs', rfl, rfl, h, _⟩ := hp
    obtain ⟨q, rfl⟩ := h.form
    exact ⟨q, a, fp, rfl, h⟩
  | p :: l, a, fps, vs, i + 1, hp, h => by
    obtain ⟨fp, fps', v, vs', rfl, rfl, _, hl⟩ := hp
    have := NpsF.at_ (i := i) hl (by simpa using h)
    simpa using this
mutual
theorem NpF.keep (hs : w.heap.size ≤ w'.heap.size) (hk : ∀ b, F b → b < w.heap.size → w'.heap[b]? = w.heap[b]? ∧ F' b) : ∀ (p : Tr.PT) (a : Nat) (fp : List Nat) (v : Value), NpF w F p a fp v → NpF w' F' p a fp v
  | .leaf k t _, a, fp, v, h => by
    obtain ⟨g, e, ef, hF, hB⟩ := h
    have := hk g hF hB.lt
    exact ⟨g, e, ef, this.2, this.1.trans hB⟩
  | .gap t _ d, a, fp, v, h => by
    obtain ⟨g, e, ef, hF, hB⟩ := h
    have := hk g hF hB.lt
    exact ⟨g, e, ef, this.2, this.1.trans hB⟩
  | .branch k _ l, a, fp, v, h => by
    obtain ⟨g, fps, e, ef, hF, A, c, vs, hB, hc, hr, hp⟩ := h
    have := hk g hF hB.lt
    exact ⟨g, fps, e, ef, this.2, A, c, vs, this.1.trans hB, hc, hr.keep hs hk, NpsF.keep hs hk l a fps vs hp⟩
theorem NpsF.keep (hs : w.heap.size ≤ w'.heap.size) (hk : ∀ b, F b → b < w.heap.size → w'.heap[b]? = w.heap[b]? ∧ F' b) : ∀ (l : List Tr.PT) (a : Nat) (fps : List Nat) (vs : List Value), NpsF w F l a fps vs → NpsF w' F' l a fps vs
  | [], a, fps, vs, h => h
  | p :: l, a, fps, vs, h => by
    obtain ⟨fp, fps', v, vs', ef, e, hp, hl⟩ := h
    exact ⟨fp, fps', v, vs', ef, e, NpF.keep hs hk p a fp v hp, NpsF.keep hs hk l _ fps' vs' hl⟩
end
end
theorem h1234 {a b c d a' b' c' d' : Value} (h : [a, b, c, d] = [a', b', c', d']) : (#[a, b, c, d] : Array Value) = #[a', b', c', d'] := by
  injection h with h1 h
  injection h with h2 h
  injection h with h3 h
  injection h with h4 h
  rw [h1, h2, h3, h4]
end Go.Proofs.YtalklmeejdmifaaGreatDoor
/-
  (*strings.Builder).WriteString over this translation: the bytes are appended (after the guide's shelf, whose own body differs by one refused line).
-/
namespace Go.Proofs.YtalklmeejdmifaaGreatDoor
open Go.RowKit

theorem bd_size : (Tryz.prog.info? 99).map (·.size) = some 2 := by kernel_rfl
theorem bd_lies : liesAt Tryz.prog Tryz.prog.depth 99 (2 / Tryz.prog.cellsOf 99) 0 99 1 = true := by kernel_rfl
theorem bd_byte : (Tryz.prog.info? 5).map (fun i => (i.zero, i.size, i.bytes)) = some (some (.int .u8 0), 1, 1) := by kernel_rfl

set_option maxRecDepth 100000 in
theorem copyCheck_used (b : Nat) (w : World) (h0 : w.cell? ⟨b, 0, none⟩ = some (.pointer (some ⟨b, 0, none⟩))) :
    Calls Tryz.prog 85 #[.pointer (some ⟨b, 0, none⟩)] w fun e w' => e = .returned (.tuple #[]) ∧ w' = w := by
  obtain ⟨j, hj, _⟩ := Option.map_eq_some_iff.1 bd_size
  go_enter Tryz.func85, Tryz.ntmps85
  go_wp2
  rw [Lib.run_neq_ptr_same w _ Tryz.underlying96 hj]
  go_wp2
  go_end0
  exact ⟨rfl, rfl⟩

set_option maxHeartbeats 1000000 in
set_option maxRecDepth 100000 in
theorem copyCheck_fresh (b : Nat) (w : World) (h0 : w.cell? ⟨b, 0, none⟩ = some (.pointer none)) (hsh : w.shape? b = some (99, 2)) (hfz : w.frozen? ⟨b, 0, none⟩ = false) :
    Calls Tryz.prog 85 #[.pointer (some ⟨b, 0, none⟩)] w fun e w' => e = .returned (.tuple #[]) ∧ w' = w.setCell ⟨b, 0, none⟩ (.pointer (some ⟨b, 0, none⟩)) := by
  obtain ⟨j, hj, hjs⟩ := Option.map_eq_some_iff.1 bd_size
  go_enter Tryz.func85, Tryz.ntmps85
  go_wp2
  rw [Lib.run_to_unsafe w ⟨b, 0, none⟩ Tryz.underlying96 Tryz.underlying211 hj (by rw [hjs]; decide) hsh (Nat.zero_lt_succ 1)]
  simp only [Result.andThen]
  rw [Oper.upon_value]
  go_wp2
  rw [run_callFunc_extern Tryz.func122 (by kernel_rfl) (by kernel_rfl) (by kernel_rfl) (e := Extern.AbiNoEscape.same) (by kernel_rfl)]
  rw [Lib.run_noEscape]
  simp only [Result.andThen]
  rw [Oper.upon_value]
  go_wp2
  rw [Lib.run_from_unsafe w ⟨b, 0, none⟩ Tryz.underlying211 Tryz.underlying96 hj hsh bd_lies]
  simp only [Result.andThen]
  rw [Oper.upon_value]
  go_wp2
  go_end0
  exact ⟨rfl, rfl⟩

theorem copyCheck_any (B b : Nat) (bs : List Value) (w : World) (h : Lib.IsBuilder 99 5 B b bs w) :
    Calls Tryz.prog 85 #[.pointer (some ⟨b, 0, none⟩)] w fun e w' => e = .returned (.tuple #[]) ∧ (Lib.BuilderAt 99 5 B b (.pointer (some ⟨b, 0, none⟩)) bs w' ∧ Below B w w' ∧ KeepX [99, 5] w w') := by
  rcases h with h | h
  · refine (copyCheck_fresh b w h.cell0 h.shape h.frozen0).mono ?_
    rintro e w' ⟨rfl, rfl⟩
    obtain ⟨_, v, hb, _⟩ := id h
    exact ⟨rfl, h.used _, (Below.refl B w).setCell (p := ⟨b, 0, none⟩) h.1 _, (KeepX.refl _ _).setCell (p := ⟨b, 0, none⟩) hb (by simp) _⟩
  · refine (copyCheck_used b w h.cell0).mono ?_
    rintro e w' ⟨rfl, rfl⟩
    exact ⟨rfl, h, Below.refl B _, KeepX.refl _ _⟩

set_option maxHeartbeats 2000000 in
set_option maxRecDepth 100000 in
theorem writeString_any (B b : Nat) (bs : List Value) (s : ByteArray) (w : World) (h : Lib.IsBuilder 99 5 B b bs w) (hlen : bs.length + s.size ≤ 140737488355328) (hBw : B ≤ w.heap.size) :
    Calls Tryz.prog 42 #[.pointer (some ⟨b, 0, none⟩), .string s] w fun e w' => e = .returned (.tuple #[.int .i64 s.size, .nilIface]) ∧ (Lib.BuilderAt 99 5 B b (.pointer (some ⟨b, 0, none⟩)) (bs ++ Lib.strCells s) w' ∧ Below B w w' ∧ KeepX [99, 5] w w') := by
  obtain ⟨i0, hi, hz0, hz1, hz2⟩ := info_parts bd_byte
  go_enter Tryz.func42, Tryz.ntmps42
  go_wp2_with (go_at_call 85; refine (copyCheck_any B b bs _ h).mono ?_)
  rintro e w1 ⟨rfl, h1, hb1, hk1⟩
  obtain ⟨hB, v, hbk, hown, hne⟩ := h1
  have c0 : w1.cell? ⟨b, 0, none⟩ = some (.pointer (some ⟨b, 0, none⟩)) := by rw [Lib.cell_of_heap hbk]; rfl
  have c1 : w1.cell? ⟨b, 1, none⟩ = some v := by rw [Lib.cell_of_heap hbk]; rfl
  go_wp2_with (at_builtin; refine Lib.wpList_append_own_string _ rfl _ _ 97 9 rfl B 5 i0 Tryz.underlying97 Tryz.underlying9 hi hz0 hz1 hz2 _ _ _ rfl hown s rfl ?c3 ?c4 ?c5 ?_)
  case c3 => unfold maxLen; omega
  case c4 => omega
  case c5 => have := hb1.size; omega
  intro v' w2 hown' hgrow _
  have hlt : b < w1.heap.size := by
    rcases Nat.lt_or_ge b w1.heap.size with h' | h'
    · exact h'
    · simp [Array.getElem?_eq_none h'] at hbk
  have hb2 : w2.heap[b]? = some (.cells #[.pointer (some ⟨b, 0, none⟩), v] 99 (0, 0)) := by
    rw [hgrow.block b hlt (fun e => hne e.symm)]
    exact hbk
  have d0 : w2.cell? ⟨b, 0, none⟩ = some (.pointer (some ⟨b, 0, none⟩)) := by rw [Lib.cell_of_heap hb2]; rfl
  have d1 : w2.cell? ⟨b, 1, none⟩ = some v := by rw [Lib.cell_of_heap hb2]; rfl
  have f1 : w2.frozen? ⟨b, 1, none⟩ = false := Lib.frozen_of_heap hb2 1
  obtain ⟨ao, n', cap, rfl⟩ : ∃ ao n' cap, v' = .slice ao n' cap := by
    rcases hown'.2 with ⟨hv, _⟩ | ⟨g, cap, cur, hv, _⟩
    · exact ⟨_, _, _, hv⟩
    · exact ⟨_, _, _, hv⟩
  go_wp2
  go_ret2
  refine ⟨rfl, ?_, ?_, ?_⟩
  · exact Lib.BuilderAt.put (T := 99) (e := 5) hB hb2 (bs' := bs ++ Lib.strCells s) (by simpa [Lib.strCells_length] using hown') (by decide)
  · exact (hb1.grown hgrow (by have := hb1.size; omega) (fun k hk => (hown.lt k hk).1)).setCell (p := ⟨b, 1, none⟩) hB _
  · refine (hk1.grown hgrow fun g hg => ?_).setCell (p := ⟨b, 1, none⟩) hb2 (by simp) _
    obtain ⟨cs, fr, hh⟩ := own_ty hown g hg
    exact ⟨cs, _, fr, hh, by simp⟩

theorem bd_alloc {B b : Nat} {bs : List Value} {w : World} (h : Lib.IsBuilder 99 5 B b bs w) (o : Obj) : Lib.IsBuilder 99 5 B b bs (w.alloc o) := by
  rcases h with h | h
  · obtain ⟨h1, v, h2, h3, h4⟩ := h
    exact .inl ⟨h1, v, (Below.heap_alloc w o b (lt_heap h2)).trans h2, h3.alloc _, h4⟩
  · obtain ⟨h1, v, h2, h3, h4⟩ := h
    exact .inr ⟨h1, v, (Below.heap_alloc w o b (lt_heap h2)).trans h2, h3.alloc _, h4⟩
end Go.Proofs.YtalklmeejdmifaaGreatDoor
/-
  strings.Builder, told in lists of bytes: WriteByte, WriteString, String.
-/
namespace Go.Proofs.YtalklmeejdmifaaGreatDoor
open Go.RowKit

/-- the builder at block b holds the bytes l -/
def IsB (B b : Nat) (l : Bs) (w : World) : Prop := Lib.IsBuilder 99 5 B b (Lib.byteCells l) w

section
variable {B b : Nat} {l : Bs} {w : World}
theorem IsB.alloc (h : IsB B b l w) (o : Obj) : IsB B b l (w.alloc o) := bd_alloc h o
theorem IsB.drew (h : IsB B b l w) : IsB B b l w.drew := h
theorem IsB.drewN (h : IsB B b l w) (n : Nat) : IsB B b l (w.drewN n) := h
theorem IsB.lt (h : IsB B b l w) : b < w.heap.size := by
  rcases h with h | h <;> (obtain ⟨_, v, hb, _⟩ := h; exact lt_heap hb)
theorem IsB.keep (h : IsB B b l w) {w' : World} (hk : ∀ k, k < w.heap.size → B ≤ k → w'.heap[k]? = w.heap[k]?) : IsB B b l w' := by
  rcases h with h | h
  · obtain ⟨h1, v, hb, hown, hne⟩ := h
    exact .inl ⟨h1, v, (hk b (lt_heap hb) h1).trans hb, own_of_block hown fun k hv => hk k (hown.lt k hv).2 (hown.lt k hv).1, hne⟩
  · obtain ⟨h1, v, hb, hown, hne⟩ := h
    exact .inr ⟨h1, v, (hk b (lt_heap hb) h1).trans hb, own_of_block hown fun k hv => hk k (hown.lt k hv).2 (hown.lt k hv).1, hne⟩
theorem IsB.below' (h : IsB B b l w) {w' : World} (hb : Below w.heap.size w w') : IsB B b l w' := h.keep fun k hk _ => hb.block k hk
theorem IsB.fresh (w : World) : IsB w.heap.size w.heap.size [] (w.alloc (.cells #[.pointer none, .slice none 0 0] 99)) := Lib.fresh_isBuilder _ _ _
theorem writeStr_walk (h : IsB B b l w) (x : Bs) (hlen : l.length + x.length ≤ 140737488355328) (hBw : B ≤ w.heap.size) :
    Calls Tryz.prog 42 #[.pointer (some ⟨b, 0, none⟩), .string ⟨x.toArray⟩] w fun e w' => e = .returned (.tuple #[.int .i64 x.length, .nilIface]) ∧ IsB B b (l ++ x) w' ∧ Below B w w' ∧ KeepX [99, 5] w w' :=
  (writeString_any B b _ ⟨x.toArray⟩ w h (by rw [Lib.byteCells_length, mk_size]; omega) hBw).mono fun e w' ⟨h1, h2, h3, h4⟩ => ⟨by rw [h1, mk_size], .inr (by rw [Lib.byteCells_append]; exact h2), h3, h4⟩
theorem bString_walk (h : IsB B b l w) (hBw : B ≤ w.heap.size) :
    Calls Tryz.prog 43 #[.pointer (some ⟨b, 0, none⟩)] w fun e w' => e = .returned (.string ⟨l.toArray⟩) ∧ Below B w w' := Tryz.Builder_String_any B b l w h hBw
end
end Go.Proofs.YtalklmeejdmifaaGreatDoor
