/-
  JOINED of the texts UJ LX
-/
import Derived.Test.YtalklmeejdmifaaGreatDoorJam
import Derived.Test.YtalklmeejdmifaaGreatDoorJan
import Derived.StillTailTactics
import Derived.Handy
import Derived.Deep.RegionHeld3
import Derived.Maps.OwnOps
import Derived.Carry
import Derived.Deep.CutBlock
import Derived.Deep.AppendLies
import Derived.Deep.QuietTactic
import Derived.BigQuiet
import Derived.Lib.RuneBytes
import Derived.Lib.Strings
import Derived.Deep.DeepCutAuto
import Derived.Lib.ConvBytes
import Derived.Laws.Strings3
import Derived.Laws.Closers25
import Derived.Laws.Closers25b
import Derived.BigCall
import Derived.BigGuard
import Derived.Test.YtalklmeejdmifaaGreatDoorShelfX
import Derived.Shelf.Spec.BytesIndexFunc
import Derived.Lib.IndexMore
import Derived.Test.YtalklmeejdmifaaGreatDoorRows
import Derived.WalkKit
import Derived.WalkSpells
import Derived.WalkLawsBesides
import Derived.Below
import Derived.Laws.OwnMore
import Derived.Deep.Draws
import Derived.Lib.Hide
import Derived.IntWalk
import Derived.Test.YtalklmeejdmifaaGreatDoorShelfW
import Derived.Shelf.Strings.SlTrimAscii
import Derived.Lib.LaidTab
import Derived.Lib.AtoiAll
import Derived.Lib.IndexLaws
import Derived.Lib.SlTrimSet
import Derived.Lib.ItoaNum
import Derived.Lib.Atoi
import Derived.WalkMore
import Derived.ScopeJumps
import Derived.Test.YtalklmeejdmifaaGreatDoorJag
import Derived.Laws.AppendOwnNone
/-
  WALKS of package tree: read, of a text that is new.
-/
namespace Go.Proofs.YtalklmeejdmifaaGreatDoor
open Go.RowKit

theorem tksC_at3 : ∀ (T : List Tk) (i j : Nat), (tksC (T.drop i))[j]? = (tksC T)[i * 3 + j]?
  | T, 0, j => by simp
  | [], i + 1, j => by simp [tksC]
  | t :: T, i + 1, j => by
    rw [List.drop_succ_cons, tksC_at3 T i j]
    have e : tksC (t :: T) = tkC t ++ tksC T := by simp [tksC]
    rw [e, List.getElem?_append_right (by simp [tkC]; omega)]
    congr 1
    simp [tkC]
    omega
theorem infoKid : (Tryz.prog.info? 92).map (fun i => (i.zero, i.size, i.bytes)) = some (some (.agg #[.pointer none, .int .i64 0, .int .i64 0, .int .i64 0]), 4, 32) := by kernel_rfl
/-- a tree that is being read, and its reader at token i -/
structure RdT (K : Nat → Prop) (g gt d : Nat) (A : Option Addr) (c : Nat) (s : Bs) (T : List Tk) (w0 : World) (i : Nat) (ks : List Tr.Kd) (ts : List Tr.PT) (w : World) : Prop where
  F : Aft (Old w0) gt w0 w
  R : ∃ b n, Rdr w K g gt s T b n i
  O : ∃ Av cv vs At ct us, OTr w K gt d A T.length c ks Av cv vs ts At ct us
  row : RowF w (fun x => K x ∧ x ≠ g ∧ x ≠ gt) A (tksC T)
section
variable {w0 w w' : World} {K : Nat → Prop} {g gt d : Nat} {A : Option Addr} {c : Nat} {s : Bs} {T : List Tk} {i : Nat} {ks : List Tr.Kd} {ts : List Tr.PT}
theorem RdT.below (S : RdT K g gt d A c s T w0 i ks ts w) (hd : Below w.heap.size w w') : RdT K g gt d A c s T w0 i ks ts w' := by
  obtain ⟨b, n, R⟩ := S.R
  obtain ⟨Av, cv, vs, At, ct, us, O⟩ := S.O
  exact ⟨S.F.trans ⟨hd.size, fun x hx _ => hd.block x (Nat.lt_of_lt_of_le hx S.F.size), Calm.below hd⟩, ⟨b, n, R.below hd⟩, ⟨Av, cv, vs, At, ct, us, O.below hd⟩, S.row.keep hd.size fun x hx hl => ⟨hd.block x hl, hx⟩⟩
theorem RdT.drewN (S : RdT K g gt d A c s T w0 i ks ts w) (m : Nat) : RdT K g gt d A c s T w0 i ks ts (w.drewN m) := S.below (below_drewN (Below.refl _ _) m)

set_option maxHeartbeats 16000000 in
set_option maxRecDepth 100000 in
theorem read_nil (X : Txts s T) (hB : Blk w gt 87 #[.pointer (some ⟨d, 0, none⟩), .slice A T.length c, .slice none 0 0, .slice none 0 0]) {D : Value} (hD : Blk w d 179 #[.string ⟨s.toArray⟩, D]) (hrow : RowF w (fun x => x ≠ gt) A (tksC T)) (hc : T.length ≤ c) :
    Calls Tryz.prog 38 #[.pointer (some ⟨gt, 0, none⟩), .slice none 0 0, .int .i64 0, .int .i64 0] w fun e w' => ∃ n : Nat, e = .returned (.int .i64 (n : Int)) ∧ Aft (Old w) gt w w' ∧ TreeIs w' (fun x => w.heap.size ≤ x) gt d A c T (Tr.kidsP s T (T.length + 1) 0).1 (Tr.tailP s T (Tr.kidsP s T (T.length + 1) 0).2) := by
  obtain ⟨k0, ki, kz0, kz1, kz2⟩ := info_parts infoKid
  obtain ⟨i0, ji, jz0, jz1, jz2⟩ := info_parts infoPart
  have hdg : d ≠ gt := fun e => by subst e; have := hB.symm.trans hD; injection this with this; injection this with _ this; exact absurd this (by decide)
  have hgl := hB.lt
  have hdl := hD.lt
  have hd0 : Below w.heap.size w (w.alloc (.cells #[.pointer (some ⟨gt, 0, none⟩), .int .i64 0, .int .i64 0, .int .i64 0] 183)) := (Below.refl _ _).alloc (Nat.le_refl _) _
  obtain ⟨g, hg⟩ : ∃ g, g = w.heap.size := ⟨_, rfl⟩
  have HG : Hid (w.heap.size ≤ g) := by show _ ≤ _; omega
  have S : RdT (fun x => x < w.heap.size + 1) g gt d A c s T w 0 [] [] (w.alloc (.cells #[.pointer (some ⟨gt, 0, none⟩), .int .i64 0, .int .i64 0, .int .i64 0] 183)) := by
    refine ⟨Aft.below hd0 (Old.in_ w), ⟨0, 0, ⟨⟨by rw [hg]; exact Blk.new _ _ _, by show _ < _; omega, by show _ < _; omega, by omega, d, A, c, D, (), _, _, hB.alloc _, by show _ < _; omega, by omega, hD.alloc _, hrow.keep hd0.size fun x hx hl => ⟨hd0.block x hl, by show _ < _; omega, by omega⟩, rfl⟩, fun x hx => by simp; exact hx, Nat.zero_le _, Nat.zero_le _⟩⟩, ⟨none, 0, [], none, 0, [], ⟨hB.alloc _, World.ownsRow_nil _ _ _ _, World.ownsRow_nil _ _ _ _, fun q hq => by simp [Value.ownBlock] at hq, fun q hq => by simp [Value.ownBlock] at hq, rfl, rfl⟩⟩, hrow.keep hd0.size fun x hx hl => ⟨hd0.block x hl, by show _ < _; omega, by omega, hx⟩⟩
  obtain ⟨K, hK⟩ : ∃ K : Nat → Prop, K = fun x => x < w.heap.size + 1 := ⟨_, rfl⟩
  have HKw : Hid (∀ x, ¬ K x → w.heap.size ≤ x) := fun x hx => by rw [hK] at hx; have hx : ¬ x < w.heap.size + 1 := hx; omega
  rw [← hK] at S
  clear hB hD hrow hd0 hgl hdl hK
  obtain ⟨all, hal⟩ : ∃ a, a = Tr.kidsP s T (T.length + 1) 0 := ⟨_, rfl⟩
  rw [← hal]
  have Hal : Hid (Tr.kidsP s T (T.length + 1) 0 = all) := hal.symm
  clear hal
  go_enter Tryz.func38, Tryz.ntmps38
  go_upto_region 2 with fail
  rw [← hg]
  clear hg
  generalize w.alloc (.cells #[.pointer (some ⟨gt, 0, none⟩), .int .i64 0, .int .i64 0, .int .i64 0] 183) = w1 at *
  go_wp2_with fail
  go_loopg [1, 10] (T.length) (fun m v u wr => ∃ (i : Nat) (ks : List Tr.Kd), v = .slice none 0 0 ∧ u = .int .i64 (ks.length : Int) ∧ T.length - i ≤ m ∧ RdT K g gt d A c s T w i ks [] wr ∧ ks.length ≤ i ∧ Hid (ks ++ (Tr.kidsP s T (T.length + 1) i).1 = all.1) ∧ Hid ((Tr.kidsP s T (T.length + 1) i).2 = all.2))
  case atStart => exact ⟨0, [], rfl, rfl, Nat.sub_le _ _, S, Nat.le_refl _, by show _ = _; rw [Hal.out]; rfl, by show _ = _; rw [Hal.out]⟩
  case round =>
    clear S Hal
    obtain ⟨i, ks, rfl, rfl, hm, S, hkl, Hk1, Hk2⟩ := hrel
    have hS := fun m => S.drewN m
    obtain ⟨b, n, R⟩ := S.R
    have hi := R.hi
    have hnx := fun m => next_walkT (R.drewN m).rs hi (by have := X.hT; omega)
    obtain ⟨Av, cv, vs, At, ct, us, O⟩ := S.O
    have t1 := O.blk.cell 1
    simp at t1
    have hT := X.hT
    have hkl2 : ks.length ≤ 4194304 := by omega
    by_cases hlt : Tr.nextP T i < T.length
    · have i1 : ((Tr.nextP T i : Nat) : Int) < (T.length : Int) := by omega
      have hst := Tr.kids_step s T i hi hlt
      have hgt := Tr.kid_gt s T i hi hlt
      rw [hst] at Hk1 Hk2
      have Hk1 : Hid ((ks ++ [Tr.kdP s T i]) ++ (Tr.kidsP s T (T.length + 1) (Tr.kidP s T i).2).1 = all.1) := by
        show _ = _
        rw [← Hk1.out, List.append_assoc]
        rfl
      have Hk2 : Hid ((Tr.kidsP s T (T.length + 1) (Tr.kidP s T i).2).2 = all.2) := Hk2
      have Hgt := Lib.hid hgt
      have Hm := Lib.hid hm
      have Hkl := Lib.hid hkl
      have Hi := Lib.hid hi
      clear hst hgt hlt R O S hm hkl hi hT
      generalize Tr.nextP T i = nx at *
      go_wp2_with fail
      go_quiet ((go_at_call 83; exact Calls.quiet_of_same (hnx _)))
      have S := hS nq
      clear hS hnx t1
      generalize wr.drewN nq = w2 at *
      go_wp2_with fail
      go_loopg [1] 0 (fun q v wr => v = .slice none 0 0 ∧ RdT K g gt d A c s T w i ks [] wr)
      case atStart => exact ⟨rfl, S⟩
      case round =>
        clear S
        obtain ⟨rfl, S⟩ := hrel
        have hS := fun m => S.drewN m
        clear S
        go_wp2_with fail
        go_quiet (fail)
        have S := hS nq
        clear hS
        generalize World.drewN _ nq = w3 at *
        have hS := fun m => S.drewN m
        clear S
        go_wp2_with fail
        go_quiet (fail)
        have S := hS nq
        clear hS
        generalize w3.drewN nq = w4 at *
        obtain ⟨Av, cv, vs, At, ct, us, O⟩ := S.O
        go_wp2_with fail
        refine wp_region_G 11 (fun w' : World => w'.cell? ⟨gt, 2, none⟩ = some (.slice Av ks.length cv)) (by kernel_rfl) ?_
        have hd : Below w4.heap.size w4 w4.drew := (Below.refl _ _).drew
        have O := O.below hd
        have S := S.below hd
        clear hd
        generalize w4.drew = w5 at *
        obtain ⟨b, n, R⟩ := S.R
        have hrow := S.row
        have hF := S.F
        clear S
        have t2 := O.blk.cell 2
        simp at t2
        have hS0 : (fun w' : World => w'.cell? ⟨gt, 2, none⟩ = some (.slice Av ks.length cv)) w5 := t2
        refine wpAnyG_take (i := 0) (v := ?_) rfl (by kernel_rfl) (by kernel_rfl) (by kernel_rfl) (by kernel_rfl) (fun _ _ _ h => h) (Or.inl ⟨by rfl, ?_⟩) hS0 ?_; rotate_left; · (intro w hSw; (try dsimp only at hSw); have s0 := hSw; go_simp; try with_reducible rfl)
        simp only [Act.put, List.setIfInBounds_toArray]
        refine wpAnyG_take (i := 1) (v := ?_) rfl (by kernel_rfl) (by kernel_rfl) (by kernel_rfl) (by kernel_rfl) (fun _ _ _ h => h) (Or.inl ⟨by rfl, ?_⟩) hS0 ?_; rotate_left; · (intro w hSw; (try dsimp only at hSw); have s0 := hSw; go_simp; try with_reducible rfl)
        simp only [Act.put]
        refine wpAnyG_take (i := 2) (v := ?_) rfl (by kernel_rfl) (by kernel_rfl) (by kernel_rfl) (by kernel_rfl) (fun _ _ _ h => h) (Or.inl ⟨by rfl, ?_⟩) hS0 ?_; rotate_left; · (intro w hSw; (try dsimp only at hSw); have s0 := hSw; go_simp; try with_reducible rfl)
        simp only [Act.put]
        refine wpAnyG_take (i := 3) (v := ?_) rfl (by kernel_rfl) (by kernel_rfl) (by kernel_rfl) (by kernel_rfl) (fun _ _ _ h => h) (Or.inl ⟨by rfl, ?_⟩) hS0 ?_; rotate_left; · (intro w hSw; (try dsimp only at hSw); have s0 := hSw; go_simp; try with_reducible rfl)
        simp only [Act.put]
        refine wpAnyG_take (i := 4) (v := ?_) rfl (by kernel_rfl) (by kernel_rfl) (by kernel_rfl) (by kernel_rfl) (fun _ _ _ h => h) (Or.inl ⟨by rfl, ?_⟩) hS0 ?_; rotate_left; · (intro w hSw; (try dsimp only at hSw); have s0 := hSw; go_simp; try with_reducible rfl)
        simp only [Act.put]
        refine wpAnyG_take (i := 5) (v := ?_) rfl (by kernel_rfl) (by kernel_rfl) (by kernel_rfl) (by kernel_rfl) (fun _ _ _ h => h) (Or.inl ⟨by rfl, ?_⟩) hS0 ?_; rotate_left; · (intro w hSw; (try dsimp only at hSw); have s0 := hSw; go_simp; try with_reducible rfl)
        simp only [Act.put]
        clear hS0
        have hkd := kid_walk X R.old
        refine wpAnyG_one (i := 6) (by kernel_rfl) rfl (fun C hC => ?_)
        go_simp
        ((with_reducible refine hkd.mono ?_))
        clear hkd
        intro e w6 h6
        obtain ⟨q, rfl, hA6, R6, hp6⟩ := h6
        have hgt : K gt := R.rs.tr.kt
        have hgK : K g := R.rs.tr.kg
        have hne : gt ≠ g := R.rs.tr.ne
        have hK0 := R.inK
        have O6 := O.aft hA6 hgK hne
        have hA6K := hA6.old hK0
        have R6 := R.from_any R6 hA6K
        have hgg : w.heap.size ≤ g := HG.out
        have hF6 : Aft (Old w) gt w w6 := hF.trans ⟨hA6.size, fun x hx _ => hA6.oth x (Nat.lt_of_lt_of_le hx hF.size) (by have hx : x < w.heap.size := hx; omega), hA6.calm⟩
        have hrow6 : RowF w6 (fun x => K x ∧ x ≠ g ∧ x ≠ gt) A (tksC T) := hrow.keep hA6.size fun x hx hl => ⟨hA6.oth x hl hx.2.1, hx⟩
        have hp : PtF w6 (fun x => ¬ K x ∧ some x ≠ (Value.slice Av ks.length cv).ownBlock ∧ some x ≠ (Value.slice At ([] : List Tr.PT).length ct).ownBlock) (Tr.kidP s T i).1 (.iface 90 (.pointer (some ⟨q, 0, none⟩))) :=
          PtF.keep (Nat.le_refl _) (fun x hF _ => ⟨rfl, fun hk => hF (hK0 x hk), fun e => hF (O.ownk.lt x e.symm).2, fun e => hF (O.ownt.lt x e.symm).2⟩) _ _ hp6
        clear O R hF hrow hp6 hA6 hA6K
        have t2 := O6.blk.cell 2
        simp at t2
        refine hC.out _ _ (fun _ => t2) ?_
        clear hC C
        have hkl2 : ks.length ≤ 4194304 := by have := Hkl.out; have := Hi.out; have := X.hT; omega
        have hgl := O6.blk.lt
        refine wpAnyG_one (i := 7) (by kernel_rfl) rfl (fun C hC => ?_)
        go_simp
        refine hC.out _ _ (fun _ => (cell_alloc _ _ _ _ hgl).trans t2) ?_
        clear hC C
        refine wpAnyG_one (i := 8) (by kernel_rfl) rfl (fun C hC => ?_)
        refine step_append_lies _ (by rfl) _ _ _ (by rfl) 0 92 k0 _ 4 32 Tryz.underlying84 ki kz0 kz1 kz2 rfl (by omega) (.slice Av ks.length cv) ks.length vs (by rfl) (O6.ownk.alloc (.cells #[.pointer (some ⟨q, 0, none⟩), .int .i64 (Tr.absP s T i : Int), .int .i64 (i : Int), .int .i64 ((Tr.kidP s T i).2 : Int)] 92)) ⟨w6.heap.size, 0, none⟩ 1 1 #[.pointer (some ⟨q, 0, none⟩), .int .i64 (Tr.absP s T i : Int), .int .i64 (i : Int), .int .i64 ((Tr.kidP s T i).2 : Int)].toList (by rfl) (by rfl) (World.news_of_block (heap_alloc_new w6 _)) (by simp [Value.oneCell']) (by omega) (by unfold maxLen; omega) (by omega) (Nat.zero_le _) (w6.heap.size + 1) (by simp) ?_
        intro gg cap' w7 hown7 hgrow hat hlt7
        have hpu := O6.pushK R6.inK hgt (k := Tr.kdP s T i) hp hown7 hgrow hat
        have hg7 := (O6.blk.alloc (.cells #[.pointer (some ⟨q, 0, none⟩), .int .i64 (Tr.absP s T i : Int), .int .i64 (i : Int), .int .i64 ((Tr.kidP s T i).2 : Int)] 92)).grown hgrow O6.kne
        have b2 := hg7.cell 2
        have bf := hg7.frozen 2
        simp at b2
        refine hC.out _ _ (fun _ => b2) ?_
        clear hC C
        refine wpAnyG_one (i := 9) (by kernel_rfl) rfl (fun C hC => ?_)
        go_simp
        refine hC.out _ _ (fun _ => b2) ?_
        clear hC C
        refine wpAnyG_one (i := 10) (by kernel_rfl) rfl (fun C hC => ?_)
        go_simp
        refine hC.out _ _ (fun _ => b2) ?_
        clear hC C
        refine wpAnyG_one (i := 11) (by kernel_rfl) rfl (fun C hC => ?_)
        go_simp
        refine hC.out _ _ (fun h => absurd rfl h) ?_
        clear hC C
        refine wpAnyG_done (by kernel_rfl) ?_ _
        obtain ⟨O7, hold, hsz7, hcm7⟩ := hpu
        have hlen7 : (ks ++ [Tr.kdP s T i]).length = ks.length + 1 := by simp
        have hs7 : w6.heap.size ≤ (World.setCell w7 ⟨gt, 2, none⟩ (.slice (some ⟨gg, 0, none⟩) (ks.length + 1) cap')).heap.size := by simp [World.setCell]; omega
        have hKold : ∀ x, K x → x ≠ gt → (World.setCell w7 ⟨gt, 2, none⟩ (.slice (some ⟨gg, 0, none⟩) (ks.length + 1) cap')).heap[x]? = w6.heap[x]? := fun x hx hne => hold x (R6.inK x hx) hne (fun e => O6.nrk x e.symm hx)
        have R7 := R6.tree hs7 hKold O6.blk O7.blk hrow6 hdg
        have hF7 : Aft (Old w) gt w (World.setCell w7 ⟨gt, 2, none⟩ (.slice (some ⟨gg, 0, none⟩) (ks.length + 1) cap')) := ⟨by have := hF6.size; omega, fun x hx hne => (hKold x (Classical.byContradiction fun hk => by have := HKw.out x hk; have hx : x < w.heap.size := hx; omega) hne).trans (hF6.oth x hx hne), hF6.calm.trans hcm7⟩
        have hrow7 : RowF (World.setCell w7 ⟨gt, 2, none⟩ (.slice (some ⟨gg, 0, none⟩) (ks.length + 1) cap')) (fun x => K x ∧ x ≠ g ∧ x ≠ gt) A (tksC T) := hrow6.keep hs7 fun x hx _ => ⟨hKold x hx.1 hx.2.2, hx⟩
        have S : RdT K g gt d A c s T w (Tr.kidP s T i).2 (ks ++ [Tr.kdP s T i]) [] (World.setCell w7 ⟨gt, 2, none⟩ (.slice (some ⟨gg, 0, none⟩) (ks.length + 1) cap')) := ⟨hF7, ⟨_, _, R7⟩, ⟨_, _, _, _, _, _, O7⟩, hrow7⟩
        clear O7 hold hsz7 hcm7 hs7 hKold R7 hF7 hrow7 O6 hp R6 hF6 hrow6 b2 bf hg7 t2 hown7 hgrow hat hlt7 hgl
        generalize (World.setCell w7 ⟨gt, 2, none⟩ (.slice (some ⟨gg, 0, none⟩) (ks.length + 1) cap')) = w8 at *
        have c1 : IntKind.i64.wrap ((ks.length : Int) + 1) = (ks.length : Int) + 1 := IntWalk.i64_in _ (by omega)
        have hi2 : (Tr.kidP s T i).2 ≤ T.length := by obtain ⟨_, _, R⟩ := S.R; exact R.hi
        generalize (Tr.kidP s T i).2 = i2 at *
        go_wp2_with fail
        go_roundg (T.length - i2)
        case rel => exact ⟨i2, _, rfl, by rw [hlen7]; go_num, Nat.le_refl _, S, by have := Hgt.out; have := Hkl.out; rw [hlen7]; omega, Hk1, Hk2⟩
        case measure => have := Hgt.out; have := Hm.out; omega
    · have hst := Tr.kids_stop s T i hlt
      rw [hst] at Hk1 Hk2
      have Hks : Hid (ks = all.1) := by show _ = _; have := Hk1.out; rwa [List.append_nil] at this
      have Hi2 : Hid (i = all.2) := Hk2.out
      have i1 : ¬ ((Tr.nextP T i : Nat) : Int) < (T.length : Int) := by omega
      have i2 : decide (Tr.nextP T i < T.length) = false := by simpa using hlt
      have i3 : (i : Int) ≤ (T.length : Int) := by omega
      have i4 : (0 : Int) ≤ (i : Int) := by omega
      have Hm := Lib.hid hm
      have Hkl := Lib.hid hkl
      clear hst Hk1 Hk2 hm hkl R O
      generalize Tr.nextP T i = nx at *
      clear hlt
      go_wp2_with fail
      go_quiet ((go_at_call 83; exact Calls.quiet_of_same (hnx _)))
      clear S
      have S := hS nq
      clear hS hnx t1
      generalize wr.drewN nq = w2 at *
      go_upto_region 16 with fail
      go_cut [105, 106, 107] (fun v z y wc => ∃ A' c', v = .slice A' (T.length - i) c' ∧ z = .int .i64 ((T.length - i : Nat) : Int) ∧ y = .int .i64 0 ∧ RdT K g gt d A c s T w i ks [] wc ∧ RowF wc (fun x => K x ∧ x ≠ g ∧ x ≠ gt) A' (tksC (T.drop i)))
      case first =>
        have hrow : RowF w2 (fun x => K x ∧ x ≠ g ∧ x ≠ gt) A (tksC T) := S.row
        have hS := fun m => S.drewN m
        obtain ⟨b, n, R⟩ := S.R
        have hi := R.hi
        obtain ⟨g0, g1, _, _⟩ := R.rs.cells
        obtain ⟨Av, cv, vs, At, ct, us, O⟩ := S.O
        have t1 := O.blk.cell 1
        simp at t1
        have i6 : (i : Int) ≤ (c : Int) := by omega
        have i7 : (T.length : Int) ≤ (c : Int) := by omega
        have Hi := Lib.hid hi
        have Hc := Lib.hid hc
        clear R O S hi
        rcases A with _ | ⟨ab, ao, ak⟩
        · have hT0 : ¬ 0 < T.length := fun h => by
            obtain ⟨b, o, e, _⟩ := hrow (by have := tksC_len T; omega)
            cases e
          have hTn : T = [] := List.eq_nil_of_length_eq_zero (by omega)
          have hin : i = 0 := by have := Hi.out; omega
          have Hre : Hid (∀ m A', RowF (w2.drewN m) (fun x => K x ∧ x ≠ g ∧ x ≠ gt) A' (tksC (T.drop i))) := fun m A' hn => by
            rw [hTn] at hn
            exact absurd hn (by simp [tksC])
          clear hrow hT0 hTn
          subst hin
          go_wp2_with fail
          go_quiet (fail)
          go_wp2_with fail
          all_goals go_meet
          exact ⟨_, _, rfl, rfl, rfl, hS nq, Hre.out nq _⟩
        · have Hrw : Hid (∀ m, i < T.length → RowF (w2.drewN m) (fun x => K x ∧ x ≠ g ∧ x ≠ gt) (some ⟨ab, ao + i * 3, ak⟩) (tksC (T.drop i))) := fun m hlt hn => by
            obtain ⟨b, o, e, hFb, hl, hcell⟩ := hrow (by have := tksC_len T; omega)
            injection e with e
            injection e with e1 e2 e3
            subst e1 e2 e3
            refine ⟨ab, ao + i * 3, rfl, hFb, hl, fun j u hu => ?_⟩
            have hj : (tksC T)[i * 3 + j]? = some u := by rw [← tksC_at3]; exact hu
            have := hcell _ _ hj
            rw [← Nat.add_assoc] at this
            exact this
          have Hre : Hid (∀ m A', i = T.length → RowF (w2.drewN m) (fun x => K x ∧ x ≠ g ∧ x ≠ gt) A' (tksC (T.drop i))) := fun m A' he hn => by
            rw [he, List.drop_length] at hn
            exact absurd hn (by simp [tksC])
          have Hak : Hid (i < T.length → ak = none) := fun hlt => by
            obtain ⟨b, o, e, _⟩ := hrow (by have := tksC_len T; omega)
            injection e with e
            injection e with e1 e2 e3
          clear hrow
          go_wp2_with fail
          go_quiet (fail)
          go_wp2_with fail
          all_goals go_meet
          · rename_i hci
            exact ⟨_, _, rfl, rfl, rfl, hS nq, Hre.out nq _ (by have := Hi.out; have := Hc.out; omega)⟩
          · by_cases he : i = T.length
            · exact ⟨_, _, rfl, rfl, rfl, hS nq, Hre.out nq _ he⟩
            · obtain rfl := Hak.out (by have := Hi.out; omega)
              have hrw := Hrw.out nq (by have := Hi.out; omega)
              have ha : (⟨ab, ao, none⟩ : Addr).add (i * 3) = ⟨ab, ao + i * 3, none⟩ := by
                simp only [Addr.add]
                split
                · rename_i h0
                  rw [h0, Nat.add_zero]
                · rfl
              exact ⟨_, _, rfl, rfl, rfl, hS nq, by rw [ha]; exact hrw⟩
      case rest =>
      clear S
      obtain ⟨A', c', rfl, rfl, rfl, S, hrow'⟩ := hcut
      have hi : i ≤ T.length := by obtain ⟨_, _, R⟩ := S.R; exact R.hi
      have hall : Tr.tailP s T all.2 = leavesP s T 0 i T.length := by
        rw [← Hi2.out]
        unfold Tr.tailP leavesP
        rw [List.take_of_length_le (by rw [List.length_drop]; exact Nat.le_refl _)]
      have Hall := Lib.hid hall
      have Hi := Lib.hid hi
      clear hall Hi2 Hm hi i2 i3
      go_wp2_with fail
      go_loopg [107] (T.length - i) (fun m v wr => ∃ k : Nat, v = .int .i64 (k : Int) ∧ k ≤ T.length - i ∧ T.length - i - k ≤ m ∧ RdT K g gt d A c s T w i ks (leavesP s T 0 i (i + k)) wr ∧ RowF wr (fun x => K x ∧ x ≠ g ∧ x ≠ gt) A' (tksC (T.drop i)))
      case atStart => exact ⟨0, rfl, Nat.zero_le _, Nat.le_refl _, by rw [Nat.add_zero, leaves_self]; exact S, hrow'⟩
      case round =>
        clear S hrow'
        obtain ⟨k, rfl, hk, hm, S, hrow'⟩ := hrel
        have Hm := Lib.hid hm
        have Hk := Lib.hid hk
        by_cases hlt : k < T.length - i
        · have j0 : (0 : Int) ≤ (k : Int) := by omega
          have j1 : (k : Int) < ((T.length - i : Nat) : Int) := by omega
          have hlt2 : i + k < T.length := by omega
          have hdl : (T.drop i).length = T.length - i := List.length_drop ..
          have hrow'' := hrow'
          obtain ⟨br, o, rfl, _, hbl, q0, q1, q2⟩ := hrow'.tk (k := k) (by rw [hdl]; exact hlt)
          have hge : (T.drop i)[k]'(by rw [hdl]; exact hlt) = T[i + k] := List.getElem_drop ..
          rw [hge] at q0 q1 q2
          clear hrow'
          have HL := Lib.hid (leaves_succ s T 0 i (i + k) (Nat.le_add_right _ _) hlt2)
          have hll := leaves_len s T 0 i (i + k)
          obtain ⟨h1, h2, h3⟩ := X.good.at_ hlt2
          have Hlf : Hid (Tr.leafP s 0 T[i + k] = .leaf T[i + k].1 (Tr.subT s T[i + k]) (T[i + k].2.1 - 0)) := rfl
          have Hsub := Lib.hid (sub_str s T[i + k])
          generalize T[i + k] = t at *
          obtain ⟨tk, ta, tl⟩ := t
          dsimp only at h1 h2 h3 q0 q1 q2 Hlf Hsub
          have HL2 : Hid (leavesP s T 0 i (i + (k + 1)) = leavesP s T 0 i (i + k) ++ [.leaf tk (Tr.subT s (tk, ta, tl)) ta]) := by
            show _ = _
            rw [← Nat.add_assoc, HL.out, Hlf.out, Nat.sub_zero]
          have hpl : (leavesP s T 0 i (i + k)).length ≤ 60000000 := by omega
          have hs := X.hs
          have a1 : (0 : Int) ≤ (ta : Int) + tl := by omega
          have a0 : IntKind.i64.wrap ((ta : Int) + tl) = (ta : Int) + tl := IntWalk.i64_in _ (by omega)
          have a2 : ((ta : Int) + tl).toNat = ta + tl := by omega
          have a3 : (ta : Int) + tl ≤ (s.length : Int) := by omega
          have a4 : (ta : Int) ≤ (ta : Int) + tl := by omega
          have a5 : ta ≤ ta + tl := by omega
          have a6 : ta + tl ≤ s.length := h1
          have HrowD : Hid (∀ w', Below wr.heap.size wr w' → RowF w' (fun x => K x ∧ x ≠ g ∧ x ≠ gt) (some ⟨br, o, none⟩) (tksC (T.drop i))) := fun w' hb => hrow''.keep hb.size fun x hx hl => ⟨hb.block x hl, hx⟩
          have Hlt := Lib.hid hlt
          clear HL Hlf hll hlt2 hdl hge hT hkl2 h1 h2 h3 hs hrow''
          generalize leavesP s T 0 i (i + k) = ts at *
          obtain ⟨bx, hbx⟩ : ∃ x, x = wr.heap.size := ⟨_, rfl⟩
          have hd : Below wr.heap.size wr (wr.alloc (.cells #[.int .i64 (tk : Int), .int .i64 (ta : Int), .int .i64 (tl : Int)] 131)) := (Below.refl _ _).alloc (Nat.le_refl _) _
          have S := S.below hd
          have hrow2 := HrowD.out _ hd
          have hBx : Blk (wr.alloc (.cells #[.int .i64 (tk : Int), .int .i64 (ta : Int), .int .i64 (tl : Int)] 131)) bx 131 #[.int .i64 (tk : Int), .int .i64 (ta : Int), .int .i64 (tl : Int)] := by rw [hbx]; exact Blk.new _ _ _
          clear hd HrowD
          go_upto_region 19 with fail
          rw [← hbx]
          clear hbx q0 q1 q2 hbl
          generalize (wr.alloc (.cells #[.int .i64 (tk : Int), .int .i64 (ta : Int), .int .i64 (tl : Int)] 131)) = w2 at *
          obtain ⟨Av, cv, vs, At, ct, us, O⟩ := S.O
          refine wp_region_G 26 (fun w' : World => w'.cell? ⟨gt, 3, none⟩ = some (.slice At ts.length ct) ∧ w'.cell? ⟨bx, 0, none⟩ = some (.int .i64 (tk : Int)) ∧ w'.cell? ⟨bx, 1, none⟩ = some (.int .i64 (ta : Int)) ∧ w'.cell? ⟨bx, 2, none⟩ = some (.int .i64 (tl : Int))) (by kernel_rfl) ?_
          have hd : Below w2.heap.size w2 w2.drew := (Below.refl _ _).drew
          have O := O.below hd
          have S := S.below hd
          have hBx := hBx.drew
          have hrow2 := hrow2.keep (F' := fun x => K x ∧ x ≠ g ∧ x ≠ gt) hd.size fun x hx hl => ⟨hd.block x hl, hx⟩
          clear hd
          generalize w2.drew = w3 at *
          obtain ⟨b, n, R⟩ := S.R
          have hrow := S.row
          have hF := S.F
          clear S
          have t3 := O.blk.cell 3
          have b0 := hBx.cell 0
          have b1 := hBx.cell 1
          have b2 := hBx.cell 2
          simp at t3 b0 b1 b2
          obtain ⟨d', _, _, t0, _, d0, _⟩ := R.rs.tr.cells
          have hS0 : (fun w' : World => w'.cell? ⟨gt, 3, none⟩ = some (.slice At ts.length ct) ∧ w'.cell? ⟨bx, 0, none⟩ = some (.int .i64 (tk : Int)) ∧ w'.cell? ⟨bx, 1, none⟩ = some (.int .i64 (ta : Int)) ∧ w'.cell? ⟨bx, 2, none⟩ = some (.int .i64 (tl : Int))) w3 := ⟨t3, b0, b1, b2⟩
          refine wpAnyG_take (i := 0) (v := ?_) rfl (by kernel_rfl) (by kernel_rfl) (by kernel_rfl) (by kernel_rfl) (fun _ _ _ h => h) (Or.inl ⟨by rfl, ?_⟩) hS0 ?_; rotate_left; · (intro w hSw; (try dsimp only at hSw); obtain ⟨s0, s1, s2, s3⟩ := hSw; go_simp; try with_reducible rfl)
          simp only [Act.put, List.setIfInBounds_toArray]
          refine wpAnyG_take (i := 1) (v := ?_) rfl (by kernel_rfl) (by kernel_rfl) (by kernel_rfl) (by kernel_rfl) (fun _ _ _ h => h) (Or.inl ⟨by rfl, ?_⟩) hS0 ?_; rotate_left; · (intro w hSw; (try dsimp only at hSw); obtain ⟨s0, s1, s2, s3⟩ := hSw; go_simp; try with_reducible rfl)
          simp only [Act.put]
          refine wpAnyG_take (i := 2) (v := ?_) rfl (by kernel_rfl) (by kernel_rfl) (by kernel_rfl) (by kernel_rfl) (fun _ _ _ h => h) (Or.inl ⟨by rfl, ?_⟩) hS0 ?_; rotate_left; · (intro w hSw; (try dsimp only at hSw); obtain ⟨s0, s1, s2, s3⟩ := hSw; go_simp; try with_reducible rfl)
          simp only [Act.put]
          refine wpAnyG_take (i := 3) (v := ?_) rfl (by kernel_rfl) (by kernel_rfl) (by kernel_rfl) (by kernel_rfl) (fun _ _ _ h => h) (Or.inl ⟨by rfl, ?_⟩) hS0 ?_; rotate_left; · (intro w hSw; (try dsimp only at hSw); obtain ⟨s0, s1, s2, s3⟩ := hSw; go_simp; try with_reducible rfl)
          simp only [Act.put]
          refine wpAnyG_take (i := 4) (v := ?_) rfl (by kernel_rfl) (by kernel_rfl) (by kernel_rfl) (by kernel_rfl) (fun _ _ _ h => h) (Or.inl ⟨by rfl, ?_⟩) hS0 ?_; rotate_left; · (intro w hSw; (try dsimp only at hSw); obtain ⟨s0, s1, s2, s3⟩ := hSw; go_simp; try with_reducible rfl)
          simp only [Act.put]
          refine wpAnyG_take (i := 5) (v := ?_) rfl (by kernel_rfl) (by kernel_rfl) (by kernel_rfl) (by kernel_rfl) (fun _ _ _ h => h) (Or.inl ⟨by rfl, ?_⟩) hS0 ?_; rotate_left; · (intro w hSw; (try dsimp only at hSw); obtain ⟨s0, s1, s2, s3⟩ := hSw; go_simp; try with_reducible rfl)
          simp only [Act.put]
          refine wpAnyG_take (i := 6) (v := ?_) rfl (by kernel_rfl) (by kernel_rfl) (by kernel_rfl) (by kernel_rfl) (fun _ _ _ h => h) (Or.inl ⟨by rfl, ?_⟩) hS0 ?_; rotate_left; · (intro w hSw; (try dsimp only at hSw); obtain ⟨s0, s1, s2, s3⟩ := hSw; go_simp; try with_reducible rfl)
          simp only [Act.put]
          refine wpAnyG_take (i := 7) (v := ?_) rfl (by kernel_rfl) (by kernel_rfl) (by kernel_rfl) (by kernel_rfl) (fun _ _ _ h => h) (Or.inl ⟨by rfl, ?_⟩) hS0 ?_; rotate_left; · (intro w hSw; (try dsimp only at hSw); obtain ⟨s0, s1, s2, s3⟩ := hSw; go_simp; try with_reducible rfl)
          simp only [Act.put]
          refine wpAnyG_take (i := 9) (v := ?_) rfl (by kernel_rfl) (by kernel_rfl) (by kernel_rfl) (by kernel_rfl) (fun _ _ _ h => h) (Or.inl ⟨by rfl, ?_⟩) hS0 ?_; rotate_left; · (intro w hSw; (try dsimp only at hSw); obtain ⟨s0, s1, s2, s3⟩ := hSw; go_simp; try with_reducible rfl)
          simp only [Act.put]
          refine wpAnyG_take (i := 10) (v := ?_) rfl (by kernel_rfl) (by kernel_rfl) (by kernel_rfl) (by kernel_rfl) (fun _ _ _ h => h) (Or.inl ⟨by rfl, ?_⟩) hS0 ?_; rotate_left; · (intro w hSw; (try dsimp only at hSw); obtain ⟨s0, s1, s2, s3⟩ := hSw; go_simp; try with_reducible rfl)
          simp only [Act.put]
          refine wpAnyG_take (i := 11) (v := ?_) rfl (by kernel_rfl) (by kernel_rfl) (by kernel_rfl) (by kernel_rfl) (fun _ _ _ h => h) (Or.inl ⟨by rfl, ?_⟩) hS0 ?_; rotate_left; · (intro w hSw; (try dsimp only at hSw); obtain ⟨s0, s1, s2, s3⟩ := hSw; go_simp; try with_reducible rfl)
          simp only [Act.put]
          refine wpAnyG_take (i := 12) (v := ?_) rfl (by kernel_rfl) (by kernel_rfl) (by kernel_rfl) (by kernel_rfl) (fun _ _ _ h => h) (Or.inl ⟨by rfl, ?_⟩) hS0 ?_; rotate_left; · (intro w hSw; (try dsimp only at hSw); obtain ⟨s0, s1, s2, s3⟩ := hSw; go_simp; try with_reducible rfl)
          simp only [Act.put]
          refine wpAnyG_take (i := 13) (v := ?_) rfl (by kernel_rfl) (by kernel_rfl) (by kernel_rfl) (by kernel_rfl) (fun _ _ _ h => h) (Or.inl ⟨by rfl, ?_⟩) hS0 ?_; rotate_left; · (intro w hSw; (try dsimp only at hSw); obtain ⟨s0, s1, s2, s3⟩ := hSw; go_simp; try with_reducible rfl)
          simp only [Act.put]
          refine wpAnyG_take (i := 14) (v := ?_) rfl (by kernel_rfl) (by kernel_rfl) (by kernel_rfl) (by kernel_rfl) (fun _ _ _ h => h) (Or.inl ⟨by rfl, ?_⟩) hS0 ?_; rotate_left; · (intro w hSw; (try dsimp only at hSw); obtain ⟨s0, s1, s2, s3⟩ := hSw; go_simp; try with_reducible rfl)
          simp only [Act.put]
          refine wpAnyG_take (i := 15) (v := ?_) rfl (by kernel_rfl) (by kernel_rfl) (by kernel_rfl) (by kernel_rfl) (fun _ _ _ h => h) (Or.inl ⟨by rfl, ?_⟩) hS0 ?_; rotate_left; · (intro w hSw; (try dsimp only at hSw); obtain ⟨s0, s1, s2, s3⟩ := hSw; go_simp; try with_reducible rfl)
          simp only [Act.put]
          refine wpAnyG_take (i := 17) (v := ?_) rfl (by kernel_rfl) (by kernel_rfl) (by kernel_rfl) (by kernel_rfl) (fun _ _ _ h => h) (Or.inl ⟨by rfl, ?_⟩) hS0 ?_; rotate_left; · (intro w hSw; (try dsimp only at hSw); obtain ⟨s0, s1, s2, s3⟩ := hSw; go_simp; try with_reducible rfl)
          simp only [Act.put]
          refine wpAnyG_take (i := 18) (v := ?_) rfl (by kernel_rfl) (by kernel_rfl) (by kernel_rfl) (by kernel_rfl) (fun _ _ _ h => h) (Or.inl ⟨by rfl, ?_⟩) hS0 ?_; rotate_left; · (intro w hSw; (try dsimp only at hSw); obtain ⟨s0, s1, s2, s3⟩ := hSw; go_simp; try with_reducible rfl)
          simp only [Act.put]
          clear hS0
          refine wpAnyG_one (i := 8) (by kernel_rfl) rfl (fun C hC => ?_)
          go_simp
          ((with_reducible refine (ttext_walk t0 d0).mono ?_))
          rintro e w4 ⟨rfl, rfl⟩
          refine hC.out _ _ (fun _ => ⟨t3, b0, b1, b2⟩) ?_
          clear hC C
          refine wpAnyG_one (i := 16) (by kernel_rfl) rfl (fun C hC => ?_)
          go_simp
          refine hC.out _ _ (fun _ => ⟨t3, b0, b1, b2⟩) ?_
          clear hC C
          refine wpAnyG_one (i := 19) (by kernel_rfl) rfl (fun C hC => ?_)
          go_simp
          refine hC.out _ _ (fun _ => ⟨t3, b0, b1, b2⟩) ?_
          clear hC C
          have hd : Below w4.heap.size w4 (w4.alloc (.cells #[.int .i64 (tk : Int), .string ((⟨s.toArray⟩ : ByteArray).extract ta (ta + tl)), .int .i64 (ta : Int)] 106)) := (Below.refl _ _).alloc (Nat.le_refl _) _
          have hBg : Blk (w4.alloc (.cells #[.int .i64 (tk : Int), .string ((⟨s.toArray⟩ : ByteArray).extract ta (ta + tl)), .int .i64 (ta : Int)] 106)) w4.heap.size 106 #[.int .i64 (tk : Int), .string ((⟨s.toArray⟩ : ByteArray).extract ta (ta + tl)), .int .i64 (ta : Int)] := Blk.new _ _ _
          have hp : PtF (w4.alloc (.cells #[.int .i64 (tk : Int), .string ((⟨s.toArray⟩ : ByteArray).extract ta (ta + tl)), .int .i64 (ta : Int)] 106)) (fun x => ¬ K x ∧ some x ≠ (Value.slice Av ks.length cv).ownBlock ∧ some x ≠ (Value.slice At ts.length ct).ownBlock) (.leaf tk (Tr.subT s (tk, ta, tl)) ta) (.iface 104 (.pointer (some ⟨w4.heap.size, 0, none⟩))) :=
            ⟨w4.heap.size, rfl, ⟨fun hk => Nat.lt_irrefl _ (R.inK _ hk), fun e => by have := (O.ownk.lt _ e.symm).2; omega, fun e => by have := (O.ownt.lt _ e.symm).2; omega⟩, by rw [← show Value.string ((⟨s.toArray⟩ : ByteArray).extract ta (ta + tl)) = .string ⟨(Tr.subT s (tk, ta, tl)).toArray⟩ from Hsub.out]; exact hBg⟩
          have hbx3 := hBx.lt
          have hgl := O.blk.lt
          refine wpAnyG_one (i := 20) (by kernel_rfl) rfl (fun C hC => ?_)
          go_simp
          have hA : Aft (Old w) gt w (w4.alloc (.cells #[.int .i64 (tk : Int), .string ((⟨s.toArray⟩ : ByteArray).extract ta (ta + tl)), .int .i64 (ta : Int)] 106)) := hF.trans ⟨hd.size, fun x hx _ => hd.block x (Nat.lt_of_lt_of_le hx hF.size), Calm.below hd⟩
          have R := R.below hd
          have O := O.below hd
          have hrow : RowF (w4.alloc (.cells #[.int .i64 (tk : Int), .string ((⟨s.toArray⟩ : ByteArray).extract ta (ta + tl)), .int .i64 (ta : Int)] 106)) (fun x => K x ∧ x ≠ g ∧ x ≠ gt) A (tksC T) := hrow.keep hd.size fun x hx hl => ⟨hd.block x hl, hx⟩
          have hBx := hBx.alloc (.cells #[.int .i64 (tk : Int), .string ((⟨s.toArray⟩ : ByteArray).extract ta (ta + tl)), .int .i64 (ta : Int)] 106)
          have hrow2 := hrow2.keep (F' := fun x => K x ∧ x ≠ g ∧ x ≠ gt) hd.size fun x hx hl => ⟨hd.block x hl, hx⟩
          have t3 := O.blk.cell 3
          have b0 := hBx.cell 0
          have b1 := hBx.cell 1
          have b2 := hBx.cell 2
          simp at t3 b0 b1 b2
          refine hC.out _ _ (fun _ => ⟨by simpa using t3, by simpa using b0, by simpa using b1, by simpa using b2⟩) ?_
          clear hC C hd hBg t0 d0 hF
          obtain ⟨q, hq⟩ : ∃ q, q = w4.heap.size := ⟨_, rfl⟩
          rw [← hq] at hp ⊢
          clear hq
          generalize (w4.alloc (.cells #[.int .i64 (tk : Int), .string ((⟨s.toArray⟩ : ByteArray).extract ta (ta + tl)), .int .i64 (ta : Int)] 106)) = w6 at *
          refine wpAnyG_one (i := 21) (by kernel_rfl) rfl (fun C hC => ?_)
          go_simp
          refine hC.out _ _ (fun _ => ⟨t3, b0, b1, b2⟩) ?_
          clear hC C
          have hgl := O.blk.lt
          have hbl := hBx.lt
          refine wpAnyG_one (i := 22) (by kernel_rfl) rfl (fun C hC => ?_)
          go_simp
          refine hC.out _ _ (fun _ => ⟨(cell_alloc _ _ _ _ hgl).trans t3, (cell_alloc _ _ _ _ hbl).trans b0, (cell_alloc _ _ _ _ hbl).trans b1, (cell_alloc _ _ _ _ hbl).trans b2⟩) ?_
          clear hC C
          refine wpAnyG_one (i := 23) (by kernel_rfl) rfl (fun C hC => ?_)
          refine step_append_lies _ (by rfl) _ _ _ (by rfl) 0 94 i0 _ 1 16 Tryz.underlying85 ji jz0 jz1 jz2 rfl (by omega) (.slice At ts.length ct) ts.length us (by rfl) (O.ownt.alloc (.cells #[.iface 104 (.pointer (some ⟨q, 0, none⟩))] 94)) ⟨w6.heap.size, 0, none⟩ 1 1 [.iface 104 (.pointer (some ⟨q, 0, none⟩))] (by rfl) (by rfl) (World.news_of_block (heap_alloc_new w6 _)) (by simp [Value.oneCell']) (by omega) (by unfold maxLen; omega) (by omega) (Nat.zero_le _) (w6.heap.size + 1) (by simp) ?_
          intro gg cap' w7 hown7 hgrow hat hlt7
          have hpu := O.pushT R.inK R.rs.tr.kt hp hown7 hgrow hat
          have hg7 := (O.blk.alloc (.cells #[.iface 104 (.pointer (some ⟨q, 0, none⟩))] 94)).grown hgrow O.tne
          have e3 := hg7.cell 3
          have bf := hg7.frozen 3
          have hx7 := (hBx.alloc (.cells #[.iface 104 (.pointer (some ⟨q, 0, none⟩))] 94)).grown hgrow (own_ne O.ownt hBx (by decide))
          have e0 := hx7.cell 0
          have e1 := hx7.cell 1
          have e2 := hx7.cell 2
          simp at e3 e0 e1 e2
          refine hC.out _ _ (fun _ => ⟨e3, e0, e1, e2⟩) ?_
          clear hC C
          refine wpAnyG_one (i := 24) (by kernel_rfl) rfl (fun C hC => ?_)
          go_simp
          refine hC.out _ _ (fun _ => ⟨e3, e0, e1, e2⟩) ?_
          clear hC C
          refine wpAnyG_one (i := 25) (by kernel_rfl) rfl (fun C hC => ?_)
          go_simp
          refine hC.out _ _ (fun _ => ⟨e3, e0, e1, e2⟩) ?_
          clear hC C
          refine wpAnyG_one (i := 26) (by kernel_rfl) rfl (fun C hC => ?_)
          go_simp
          refine hC.out _ _ (fun h => absurd rfl h) ?_
          clear hC C
          refine wpAnyG_done (by kernel_rfl) ?_ _
          obtain ⟨O7, hold, hsz7, hcm7⟩ := hpu
          have hs7 : w6.heap.size ≤ (World.setCell w7 ⟨gt, 3, none⟩ (.slice (some ⟨gg, 0, none⟩) (ts.length + 1) cap')).heap.size := by simp [World.setCell]; omega
          have hKold : ∀ x, K x → x ≠ gt → (World.setCell w7 ⟨gt, 3, none⟩ (.slice (some ⟨gg, 0, none⟩) (ts.length + 1) cap')).heap[x]? = w6.heap[x]? := fun x hx hne => hold x (R.inK x hx) hne (fun e => O.nrt x e.symm hx)
          have R7 := R.tree hs7 hKold O.blk O7.blk hrow hdg
          have hF7 : Aft (Old w) gt w (World.setCell w7 ⟨gt, 3, none⟩ (.slice (some ⟨gg, 0, none⟩) (ts.length + 1) cap')) := ⟨by have := hA.size; omega, fun x hx hne => (hKold x (Classical.byContradiction fun hk => by have := HKw.out x hk; have hx : x < w.heap.size := hx; omega) hne).trans (hA.oth x hx hne), hA.calm.trans hcm7⟩
          have hrow7 : RowF (World.setCell w7 ⟨gt, 3, none⟩ (.slice (some ⟨gg, 0, none⟩) (ts.length + 1) cap')) (fun x => K x ∧ x ≠ g ∧ x ≠ gt) A (tksC T) := hrow.keep hs7 fun x hx _ => ⟨hKold x hx.1 hx.2.2, hx⟩
          have hrow8 : RowF (World.setCell w7 ⟨gt, 3, none⟩ (.slice (some ⟨gg, 0, none⟩) (ts.length + 1) cap')) (fun x => K x ∧ x ≠ g ∧ x ≠ gt) (some ⟨br, o, none⟩) (tksC (T.drop i)) := hrow2.keep hs7 fun x hx _ => ⟨hKold x hx.1 hx.2.2, hx⟩
          rw [← HL2.out] at O7
          have S : RdT K g gt d A c s T w i ks (leavesP s T 0 i (i + (k + 1))) (World.setCell w7 ⟨gt, 3, none⟩ (.slice (some ⟨gg, 0, none⟩) (ts.length + 1) cap')) := ⟨hF7, ⟨_, _, R7⟩, ⟨_, _, _, _, _, _, O7⟩, hrow7⟩
          clear O7 hold hsz7 hcm7 hs7 hKold R7 hF7 hrow7 O hp R hA hrow hrow2 hBx e0 e1 e2 e3 bf hg7 hx7 hown7 hgrow hat hlt7 hgl hbl t3 b0 b1 b2 a0 a1 a2 a3 a4 a5 a6 hbx3
          generalize (World.setCell w7 ⟨gt, 3, none⟩ (.slice (some ⟨gg, 0, none⟩) (ts.length + 1) cap')) = w8 at *
          have c1 : IntKind.i64.wrap ((k : Int) + 1) = (k : Int) + 1 := IntWalk.i64_in _ (by have := Hi.out; have := X.hT; have := Hlt.out; omega)
          go_wp2_with fail
          go_roundg (T.length - i - (k + 1))
          case rel => exact ⟨k + 1, by go_num, by have := Hlt.out; omega, Nat.le_refl _, S, hrow8⟩
          case measure => have := Hlt.out; have := Hm.out; omega
        · have hke : i + k = T.length := by have := Hi.out; omega
          have j1 : ¬ (k : Int) < ((T.length - i : Nat) : Int) := by omega
          have j2 : decide (k < T.length - i) = false := by simpa using hlt
          rw [hke] at S
          clear hke hlt hrow' hk hm
          go_wp2_with fail
          go_ret
          obtain ⟨Av, cv, vs, At, ct, us, O⟩ := S.O
          refine ⟨⟨ks.length, rfl⟩, S.F, ?_⟩
          rw [Hall.out, ← Hks.out]
          exact O.done HKw.out
end
end Go.Proofs.YtalklmeejdmifaaGreatDoor
/-
  WALKS of package lex's Doc: slices.Clone at []api.Token, New, Text, Tokens.
-/
namespace Go.Proofs.YtalklmeejdmifaaGreatDoor
open Go.RowKit

theorem tkC_one (x : Tk) : ∀ u ∈ tkC x, u.oneCell' = true := by
  intro u hu
  simp [tkC] at hu
  rcases hu with rfl | rfl | rfl <;> rfl
theorem tksC_one (l : List Tk) : ∀ u ∈ tksC l, u.oneCell' = true := by
  intro u hu
  simp only [tksC, List.mem_flatMap] at hu
  obtain ⟨x, _, hx⟩ := hu
  exact tkC_one x u hx
theorem tksC_app (l m : List Tk) : tksC (l ++ m) = tksC l ++ tksC m := by simp [tksC]
theorem tksC_take (l : List Tk) (k : Nat) : tksC (l.take k) = (tksC l).take (k * 3) := by
  induction l generalizing k with
  | nil => simp [tksC]
  | cons a l ih =>
    cases k with
    | zero => simp [tksC]
    | succ k =>
      have h3 : (tkC a).length = 3 := rfl
      simp only [tksC, List.take_succ_cons, List.flatMap_cons] at *
      rw [ih, show (k + 1) * 3 = (tkC a).length + k * 3 by rw [h3]; omega, List.take_length_add_append]
theorem tksC_drop (l : List Tk) (k : Nat) : tksC (l.drop k) = (tksC l).drop (k * 3) := by
  induction l generalizing k with
  | nil => simp [tksC]
  | cons a l ih =>
    cases k with
    | zero => simp [tksC]
    | succ k =>
      have h3 : (tkC a).length = 3 := rfl
      simp only [tksC, List.drop_succ_cons, List.flatMap_cons] at *
      rw [ih, show (k + 1) * 3 = (tkC a).length + k * 3 by rw [h3]; omega, List.drop_length_add_append]

/-- the slice value (A, n, c) reads as the tokens l -/
def TkAt (w : World) (A : Option Addr) (l : List Tk) : Prop :=
  (A = none → l = []) ∧ ∀ ad, A = some ad → ∀ j u, (tksC l)[j]? = some u → w.cell? (ad.add j) = some u
theorem TkAt.keep {w w' : World} {A : Option Addr} {l : List Tk} (h : TkAt w A l) (hk : ∀ p : Addr, ∀ u, w.cell? p = some u → w'.cell? p = some u) : TkAt w' A l :=
  ⟨h.1, fun ad ha j u hu => hk _ _ (h.2 ad ha j u hu)⟩
theorem TkAt.below {w w' : World} {A : Option Addr} {l : List Tk} (h : TkAt w A l) (hb : Below w.heap.size w w') : TkAt w' A l :=
  h.keep fun p u hp => by
    have := World.block_lt_of_cell? w p hp
    exact (hb.cell this).trans hp
theorem Rd.tkAt {w : World} {B : Nat} {A : Option Addr} {l : List Tk} (h : Rd w B 3 A l.length (tksC l)) : TkAt w A l := by
  constructor
  · intro hA
    rcases Nat.eq_zero_or_pos l.length with h0 | h0
    · exact List.eq_nil_of_length_eq_zero h0
    · obtain ⟨b, o, e, _⟩ := h.2 h0
      rw [hA] at e; cases e
  · intro ad hA j u hu
    have hj : j < l.length * 3 := by
      have := (List.getElem?_eq_some_iff.1 hu).1
      rwa [tksC_len] at this
    obtain ⟨b, o, e, _, hc⟩ := h.2 (by omega)
    rw [hA] at e
    injection e with e
    subst e
    have := hc j u hu
    unfold Addr.add
    split
    · rename_i h0; subst h0; simpa using this
    · exact this

set_option maxHeartbeats 1000000 in
set_option maxRecDepth 100000 in
theorem tclone_walk (A : Option Addr) (c : Nat) (l : List Tk) (w : World) (h : TkAt w A l) (hc : A = none → c = 0) (hl : l.length ≤ 16777216) :
    Calls Tryz.prog 82 #[.slice A l.length c] w fun e w' => ∃ v, e = .returned v ∧ w'.ownsRow w.heap.size 131 3 v l.length (tksC l) ∧ Below w.heap.size w w' := by
  obtain ⟨i0, ji, jz0, jz1, jz2⟩ := info_parts infoTk
  cases A with
  | none =>
    have h1 := h.1 rfl
    have h2 := hc rfl
    subst h1 h2
    have hnl := fun w : World => Lib.run_eql_slice_nil (P := Tryz.prog) w 83 131 none 0 0 0 0 Tryz.underlying83
    go_enter Tryz.func82, Tryz.ntmps82
    go_wp2
    go_ret
    exact ⟨_, rfl, World.ownsRow_nil _ _ _ _, Below.refl _ _⟩
  | some ad =>
    have h2 := h.2 ad rfl
    have hcl := tksC_len l
    have hO := World.ownsRow_lit (base := w.heap.size) (e := 131) (size := 3) w #[] 0 (Nat.le_refl _) (by unfold maxLen; omega) rfl
    have h3 : ∀ j u, (tksC l)[j]? = some u → (w.alloc (.cells #[] 131)).cell? (ad.add j) = some u := fun j u hu => by
      have h4 := h2 j u hu
      have h5 := World.block_lt_of_cell? w _ h4
      rw [World.cell?_of_block (Below.heap_alloc w _ _ h5)]; exact h4
    have H3 := Lib.hid h3
    have hb : Below w.heap.size w (w.alloc (.cells #[] 131)) := (Below.refl _ _).alloc (Nat.le_refl _) _
    clear h2 h3 h
    have hnl := fun w : World => Lib.run_eql_slice_nil (P := Tryz.prog) w 83 131 (some ad) l.length c 0 0 Tryz.underlying83
    go_enter Tryz.func82, Tryz.ntmps82
    go_wp2_with (at_builtin; refine wpList_append_own _ rfl _ _ 83 rfl w.heap.size 131 i0 _ 3 24 Tryz.underlying83 ji jz0 jz1 jz2 rfl (by omega) _ 0 _ rfl hO ad l.length c (tksC l) rfl hcl H3.out (tksC_one l) (by unfold maxLen; omega) (by omega) (by simp) ?_; intro v' w4 hown4 hgrow _)
    go_ret
    exact ⟨v', rfl, by simpa using hown4, hb.grown hgrow hb.size fun g hg => (hO.lt g hg).1⟩

theorem own_clip {w : World} {base : Nat} {e : TypeId} {n c : Nat} {A : Option Addr} {xs : List Value} (h : w.ownsRow base e 3 (.slice A n c) n xs) : (A = none → n = 0) ∧ Rd w w.heap.size 3 A n xs := by
  refine ⟨fun hA => ?_, Rd.of_own h⟩
  rcases Nat.eq_zero_or_pos n with h0 | h0
  · exact h0
  · obtain ⟨b, o, e, _⟩ := (Rd.of_own h).2 h0
    rw [hA] at e; cases e

/-- a Doc in memory: its text and its tokens -/
def DocAt (w : World) (g : Nat) (s : Bs) (T : List Tk) : Prop :=
  ∃ A c, Blk w g 179 #[.string ⟨s.toArray⟩, .slice A T.length c] ∧ (A = none → c = 0) ∧ T.length ≤ c ∧ Rd w w.heap.size 3 A T.length (tksC T)
theorem DocAt.below {w w' : World} {g : Nat} {s : Bs} {T : List Tk} (h : DocAt w g s T) (hb : Below w.heap.size w w') : DocAt w' g s T := by
  obtain ⟨A, c, h1, h2, h3, h4⟩ := h
  exact ⟨A, c, h1.below hb h1.lt, h2, h3, (h4.below hb).more hb.size⟩

set_option maxHeartbeats 1000000 in
set_option maxRecDepth 100000 in
theorem ltext_walk (g : Nat) (s : Bs) (T : List Tk) (w : World) (h : DocAt w g s T) :
    Calls Tryz.prog 44 #[.pointer (some ⟨g, 0, none⟩)] w fun e w' => e = .returned (.string ⟨s.toArray⟩) ∧ w' = w := by
  obtain ⟨A, c, h1, h2, h3, h4⟩ := h
  have c0 := h1.cell 0
  simp at c0
  go_enter Tryz.func44, Tryz.ntmps44
  go_wp2
  go_ret
  exact ⟨rfl, rfl⟩

set_option maxHeartbeats 1000000 in
set_option maxRecDepth 100000 in
theorem ltokens_walk (g : Nat) (s : Bs) (T : List Tk) (w : World) (h : DocAt w g s T) (hl : T.length ≤ 16777216) :
    Calls Tryz.prog 37 #[.pointer (some ⟨g, 0, none⟩)] w fun e w' => ∃ A, e = .returned (.slice A T.length T.length) ∧ (∃ c, w'.ownsRow w.heap.size 131 3 (.slice A T.length c) T.length (tksC T)) ∧ Below w.heap.size w w' := by
  obtain ⟨A, c, h1, h2, h3, h4⟩ := h
  have c1 := h1.cell 1
  simp at c1
  have hcl := tclone_walk A c T w h4.tkAt h2 hl
  go_enter Tryz.func37, Tryz.ntmps37
  go_wp2_with fail
  refine hcl.mono ?_
  rintro e w1 ⟨v, rfl, hown, hb1⟩
  obtain ⟨Av, cv, rfl, hle, hvn⟩ := own_cap hown
  go_wp2_with fail
  refine (tclip_walk Av T.length cv _ hle hvn).mono ?_
  rintro e w' ⟨rfl, rfl⟩
  go_wp2_with fail
  go_ret
  exact ⟨Av, rfl, ⟨cv, hown⟩, hb1⟩

set_option maxHeartbeats 1000000 in
set_option maxRecDepth 100000 in
theorem lnew_walk (s : Bs) (m : Int) (w : World) (hM : MaxL w m) (hT : T8 w) (hW : WordsIs w) (hl : s.length ≤ 8388608) :
    Calls Tryz.prog 36 #[.string ⟨s.toArray⟩] w fun e w' => ∃ g, e = .returned (.pointer (some ⟨g, 0, none⟩)) ∧ w.heap.size ≤ g ∧ DocAt w' g s (Lx.tokR 0 s) ∧ Below w.heap.size w w' := by
  have hk := tokens_walkO s m w hM hT hW hl
  generalize Lx.tokR 0 s = T at *
  go_enter Tryz.func36, Tryz.ntmps36
  go_wp2_with fail
  refine hk.mono ?_
  clear hk
  rintro e w1 ⟨A, rfl, ⟨cv, hown⟩, hb1⟩
  obtain ⟨hc, hrd⟩ := own_clip hown
  go_wp2_with fail
  go_ret
  have hbA : Below w.heap.size w (w1.alloc (.cells #[.string ⟨s.toArray⟩, .slice A T.length T.length] 179)) := hb1.alloc hb1.size _
  exact ⟨_, rfl, hb1.size, ⟨A, T.length, Blk.new _ _ _, hc, Nat.le_refl _, (hrd.below ((Below.refl _ _).alloc (Nat.le_refl _) _)).more (by simp)⟩, hbA⟩
end Go.Proofs.YtalklmeejdmifaaGreatDoor
