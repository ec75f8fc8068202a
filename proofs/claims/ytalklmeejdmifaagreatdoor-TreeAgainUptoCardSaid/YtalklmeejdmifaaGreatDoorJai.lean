/-
  JOINED of the texts UJ ZK ZA LQ
-/
import Derived.Test.YtalklmeejdmifaaGreatDoorJah
namespace Go.Proofs.YtalklmeejdmifaaGreatDoor
open Go.RowKit
theorem tksC_at3 : ∀ (T : List Tk) (i j : Nat), (tksC (T.drop i))[j]? = (tksC T)[i * 3 + j]?
 | T, 0, j => by simp
 | [], i + 1, j => by simp [tksC]
 | t :: T, i + 1, j => by
  rw [List.drop_succ_cons, tksC_at3 T i j]
  have e : tksC (t :: T) = tkC t ++ tksC T := by simp [tksC]
  rw [e, List.getElem?_append_right (by simp [tkC]; omega)]
  congr 1
  simp [tkC]
  omega
theorem infoKid : (Tryz.prog.info? 92).map (fun i => (i.zero, i.size, i.bytes)) = some (some (.agg #[.pointer none, .int .i64 0, .int .i64 0, .int .i64 0]), 4, 32) := by kernel_rfl
structure RdT (K : Nat → Prop) (g gt d : Nat) (A : Option Addr) (c : Nat) (s : Bs) (T : List Tk) (w0 : World) (i : Nat) (ks : List Tr.Kd) (ts : List Tr.PT) (w : World) : Prop where
 F : Aft (Old w0) gt w0 w
 R : ∃ b n, Rdr w K g gt s T b n i
 O : ∃ Av cv vs At ct us, OTr w K gt d A T.length c ks Av cv vs ts At ct us
 row : RowF w (fun x => K x ∧ x ≠ g ∧ x ≠ gt) A (tksC T)
section
variable {w0 w w' : World} {K : Nat → Prop} {g gt d : Nat} {A : Option Addr} {c : Nat} {s : Bs} {T : List Tk} {i : Nat} {ks : List Tr.Kd} {ts : List Tr.PT}
theorem RdT.below (S : RdT K g gt d A c s T w0 i ks ts w) (hd : Below w.heap.size w w') : RdT K g gt d A c s T w0 i ks ts w' := by
 obtain ⟨b, n, R⟩ := S.R
 obtain ⟨Av, cv, vs, At, ct, us, O⟩ := S.O
 exact ⟨S.F.trans ⟨hd.size, fun x hx _ => hd.block x (Nat.lt_of_lt_of_le hx S.F.size), Calm.below hd⟩, ⟨b, n, R.below hd⟩, ⟨Av, cv, vs, At, ct, us, O.below hd⟩, S.row.keep hd.size fun x hx hl => ⟨hd.block x hl, hx⟩⟩
theorem RdT.drewN (S : RdT K g gt d A c s T w0 i ks ts w) (m : Nat) : RdT K g gt d A c s T w0 i ks ts (w.drewN m) := S.below (below_drewN (Below.refl _ _) m)
set_option maxHeartbeats 16000000 in
set_option maxRecDepth 100000 in
theorem read_nil (X : Txts s T) (hB : Blk w gt 87 #[.pointer (some ⟨d, 0, none⟩), .slice A T.length c, .slice none 0 0, .slice none 0 0]) {D : Value} (hD : Blk w d 179 #[.string ⟨s.toArray⟩, D]) (hrow : RowF w (fun x => x ≠ gt) A (tksC T)) (hc : T.length ≤ c) :
  Calls Tryz.prog 38 #[.pointer (some ⟨gt, 0, none⟩), .slice none 0 0, .int .i64 0, .int .i64 0] w fun e w' => ∃ n : Nat, e = .returned (.int .i64 (n : Int)) ∧ Aft (Old w) gt w w' ∧ TreeIs w' (fun x => w.heap.size ≤ x) gt d A c T (Tr.kidsP s T (T.length + 1) 0).1 (Tr.tailP s T (Tr.kidsP s T (T.length + 1) 0).2) := by
 obtain ⟨k0, ki, kz0, kz1, kz2⟩ := info_parts infoKid
 obtain ⟨i0, ji, jz0, jz1, jz2⟩ := info_parts infoPart
 have hdg : d ≠ gt := fun e => by subst e; have := hB.symm.trans hD; injection this with this; injection this with _ this; exact absurd this (by decide)
 have hgl := hB.lt
 have hdl := hD.lt
 have hd0 : Below w.heap.size w (w.alloc (.cells #[.pointer (some ⟨gt, 0, none⟩), .int .i64 0, .int .i64 0, .int .i64 0] 183)) := (Below.refl _ _).alloc (Nat.le_refl _) _
 obtain ⟨g, hg⟩ : ∃ g, g = w.heap.size := ⟨_, rfl⟩
 have HG : Hid (w.heap.size ≤ g) := by show _ ≤ _; omega
 have S : RdT (fun x => x < w.heap.size + 1) g gt d A c s T w 0 [] [] (w.alloc (.cells #[.pointer (some ⟨gt, 0, none⟩), .int .i64 0, .int .i64 0, .int .i64 0] 183)) := by
  refine ⟨Aft.below hd0 (Old.in_ w), ⟨0, 0, ⟨⟨by rw [hg]; exact Blk.new _ _ _, by show _ < _; omega, by show _ < _; omega, by omega, d, A, c, D, (), _, _, hB.alloc _, by show _ < _; omega, by omega, hD.alloc _, hrow.keep hd0.size fun x hx hl => ⟨hd0.block x hl, by show _ < _; omega, by omega⟩, rfl⟩, fun x hx => by simp; exact hx, Nat.zero_le _, Nat.zero_le _⟩⟩, ⟨none, 0, [], none, 0, [], ⟨hB.alloc _, World.ownsRow_nil _ _ _ _, World.ownsRow_nil _ _ _ _, fun q hq => by simp [Value.ownBlock] at hq, fun q hq => by simp [Value.ownBlock] at hq, rfl, rfl⟩⟩, hrow.keep hd0.size fun x hx hl => ⟨hd0.block x hl, by show _ < _; omega, by omega, hx⟩⟩
 obtain ⟨K, hK⟩ : ∃ K : Nat → Prop, K = fun x => x < w.heap.size + 1 := ⟨_, rfl⟩
 have HKw : Hid (∀ x, ¬ K x → w.heap.size ≤ x) := fun x hx => by rw [hK] at hx; have hx : ¬ x < w.heap.size + 1 := hx; omega
 rw [← hK] at S
 clear hB hD hrow hd0 hgl hdl hK
 obtain ⟨all, hal⟩ : ∃ a, a = Tr.kidsP s T (T.length + 1) 0 := ⟨_, rfl⟩
 rw [← hal]
 have Hal : Hid (Tr.kidsP s T (T.length + 1) 0 = all) := hal.symm
 clear hal
 go_enter Tryz.func38, Tryz.ntmps38
 go_upto_region 2 with fail
 rw [← hg]
 clear hg
 generalize w.alloc (.cells #[.pointer (some ⟨gt, 0, none⟩), .int .i64 0, .int .i64 0, .int .i64 0] 183) = w1 at *
 go_wp2_with fail
 go_loopg [1, 10] (T.length) (fun m v u wr => ∃ (i : Nat) (ks : List Tr.Kd), v = .slice none 0 0 ∧ u = .int .i64 (ks.length : Int) ∧ T.length - i ≤ m ∧ RdT K g gt d A c s T w i ks [] wr ∧ ks.length ≤ i ∧ Hid (ks ++ (Tr.kidsP s T (T.length + 1) i).1 = all.1) ∧ Hid ((Tr.kidsP s T (T.length + 1) i).2 = all.2))
 case atStart => exact ⟨0, [], rfl, rfl, Nat.sub_le _ _, S, Nat.le_refl _, by show _ = _; rw [Hal.out]; rfl, by show _ = _; rw [Hal.out]⟩
 case round =>
  clear S Hal
  obtain ⟨i, ks, rfl, rfl, hm, S, hkl, Hk1, Hk2⟩ := hrel
  have hS := fun m => S.drewN m
  obtain ⟨b, n, R⟩ := S.R
  have hi := R.hi
  have hnx := fun m => next_walkT (R.drewN m).rs hi (by have := X.hT; omega)
  obtain ⟨Av, cv, vs, At, ct, us, O⟩ := S.O
  have t1 := O.blk.cell 1
  simp at t1
  have hT := X.hT
  have hkl2 : ks.length ≤ 4194304 := by omega
  by_cases hlt : Tr.nextP T i < T.length
  ·have i1 : ((Tr.nextP T i : Nat) : Int) < (T.length : Int) := by omega
   have hst := Tr.kids_step s T i hi hlt
   have hgt := Tr.kid_gt s T i hi hlt
   rw [hst] at Hk1 Hk2
   have Hk1 : Hid ((ks ++ [Tr.kdP s T i]) ++ (Tr.kidsP s T (T.length + 1) (Tr.kidP s T i).2).1 = all.1) := by
    show _ = _
    rw [← Hk1.out, List.append_assoc]
    rfl
   have Hk2 : Hid ((Tr.kidsP s T (T.length + 1) (Tr.kidP s T i).2).2 = all.2) := Hk2
   have Hgt := Lib.hid hgt
   have Hm := Lib.hid hm
   have Hkl := Lib.hid hkl
   have Hi := Lib.hid hi
   clear hst hgt hlt R O S hm hkl hi hT
   generalize Tr.nextP T i = nx at *
   go_wp2_with fail
   go_quiet ((go_at_call 83; exact Calls.quiet_of_same (hnx _)))
   have S := hS nq
   clear hS hnx t1
   generalize wr.drewN nq = w2 at *
   go_wp2_with fail
   go_loopg [1] 0 (fun q v wr => v = .slice none 0 0 ∧ RdT K g gt d A c s T w i ks [] wr)
   case atStart => exact ⟨rfl, S⟩
   case round =>
    clear S
    obtain ⟨rfl, S⟩ := hrel
    have hS := fun m => S.drewN m
    clear S
    go_wp2_with fail
    go_quiet (fail)
    have S := hS nq
    clear hS
    generalize World.drewN _ nq = w3 at *
    have hS := fun m => S.drewN m
    clear S
    go_wp2_with fail
    go_quiet (fail)
    have S := hS nq
    clear hS
    generalize w3.drewN nq = w4 at *
    obtain ⟨Av, cv, vs, At, ct, us, O⟩ := S.O
    go_wp2_with fail
    refine wp_region_G 11 (fun w' : World => w'.cell? ⟨gt, 2, none⟩ = some (.slice Av ks.length cv)) (by kernel_rfl) ?_
    have hd : Below w4.heap.size w4 w4.drew := (Below.refl _ _).drew
    have O := O.below hd
    have S := S.below hd
    clear hd
    generalize w4.drew = w5 at *
    obtain ⟨b, n, R⟩ := S.R
    have hrow := S.row
    have hF := S.F
    clear S
    have t2 := O.blk.cell 2
    simp at t2
    have hS0 : (fun w' : World => w'.cell? ⟨gt, 2, none⟩ = some (.slice Av ks.length cv)) w5 := t2
    refine wpAnyG_tk 0 hS0 ?_
    simp only [Act.put, List.setIfInBounds_toArray]
    refine wpAnyG_tk 1 hS0 ?_
    simp only [Act.put]
    refine wpAnyG_tk 2 hS0 ?_
    simp only [Act.put]
    refine wpAnyG_tk 3 hS0 ?_
    simp only [Act.put]
    refine wpAnyG_tk 4 hS0 ?_
    simp only [Act.put]
    refine wpAnyG_tk 5 hS0 ?_
    simp only [Act.put]
    clear hS0
    have hkd := kid_walk X R.old
    refine wpAnyG_on 6 fun C hC => ?_
    go_simp
    ((with_reducible refine hkd.mono ?_))
    clear hkd
    intro e w6 h6
    obtain ⟨q, rfl, hA6, R6, hp6⟩ := h6
    have hgt : K gt := R.rs.tr.kt
    have hgK : K g := R.rs.tr.kg
    have hne : gt ≠ g := R.rs.tr.ne
    have hK0 := R.inK
    have O6 := O.aft hA6 hgK hne
    have hA6K := hA6.old hK0
    have R6 := R.from_any R6 hA6K
    have hgg : w.heap.size ≤ g := HG.out
    have hF6 : Aft (Old w) gt w w6 := hF.trans ⟨hA6.size, fun x hx _ => hA6.oth x (Nat.lt_of_lt_of_le hx hF.size) (by have hx : x < w.heap.size := hx; omega), hA6.calm⟩
    have hrow6 : RowF w6 (fun x => K x ∧ x ≠ g ∧ x ≠ gt) A (tksC T) := hrow.keep hA6.size fun x hx hl => ⟨hA6.oth x hl hx.2.1, hx⟩
    have hp : PtF w6 (fun x => ¬ K x ∧ some x ≠ (Value.slice Av ks.length cv).ownBlock ∧ some x ≠ (Value.slice At ([] : List Tr.PT).length ct).ownBlock) (Tr.kidP s T i).1 (.iface 90 (.pointer (some ⟨q, 0, none⟩))) :=
     PtF.keep (Nat.le_refl _) (fun x hF _ => ⟨rfl, fun hk => hF (hK0 x hk), fun e => hF (O.ownk.lt x e.symm).2, fun e => hF (O.ownt.lt x e.symm).2⟩) _ _ hp6
    clear O R hF hrow hp6 hA6 hA6K
    have t2 := O6.blk.cell 2
    simp at t2
    refine hC.out _ _ (fun _ => t2) ?_
    clear hC C
    have hkl2 : ks.length ≤ 4194304 := by have := Hkl.out; have := Hi.out; have := X.hT; omega
    have hgl := O6.blk.lt
    refine wpAnyG_on 7 fun C hC => ?_
    go_simp
    refine hC.out _ _ (fun _ => (cell_alloc _ _ _ _ hgl).trans t2) ?_
    clear hC C
    refine wpAnyG_on 8 fun C hC => ?_
    refine step_append_lies _ (by rfl) _ _ _ (by rfl) 0 92 k0 _ 4 32 Tryz.underlying84 ki kz0 kz1 kz2 rfl (by omega) (.slice Av ks.length cv) ks.length vs (by rfl) (O6.ownk.alloc (.cells #[.pointer (some ⟨q, 0, none⟩), .int .i64 (Tr.absP s T i : Int), .int .i64 (i : Int), .int .i64 ((Tr.kidP s T i).2 : Int)] 92)) ⟨w6.heap.size, 0, none⟩ 1 1 #[.pointer (some ⟨q, 0, none⟩), .int .i64 (Tr.absP s T i : Int), .int .i64 (i : Int), .int .i64 ((Tr.kidP s T i).2 : Int)].toList (by rfl) (by rfl) (World.news_of_block (heap_alloc_new w6 _)) (by simp [Value.oneCell']) (by omega) (by unfold maxLen; omega) (by omega) (Nat.zero_le _) (w6.heap.size + 1) (by simp) ?_
    intro gg cap' w7 hown7 hgrow hat hlt7
    have hpu := O6.pushK R6.inK hgt (k := Tr.kdP s T i) hp hown7 hgrow hat
    have hg7 := (O6.blk.alloc (.cells #[.pointer (some ⟨q, 0, none⟩), .int .i64 (Tr.absP s T i : Int), .int .i64 (i : Int), .int .i64 ((Tr.kidP s T i).2 : Int)] 92)).grown hgrow O6.kne
    have b2 := hg7.cell 2
    have bf := hg7.frozen 2
    simp at b2
    refine hC.out _ _ (fun _ => b2) ?_
    clear hC C
    refine wpAnyG_on 9 fun C hC => ?_
    go_simp
    refine hC.out _ _ (fun _ => b2) ?_
    clear hC C
    refine wpAnyG_on 10 fun C hC => ?_
    go_simp
    refine hC.out _ _ (fun _ => b2) ?_
    clear hC C
    refine wpAnyG_on 11 fun C hC => ?_
    go_simp
    refine hC.out _ _ (fun h => absurd rfl h) ?_
    clear hC C
    refine wpAnyG_done (by kernel_rfl) ?_ _
    obtain ⟨O7, hold, hsz7, hcm7⟩ := hpu
    have hlen7 : (ks ++ [Tr.kdP s T i]).length = ks.length + 1 := by simp
    have hs7 : w6.heap.size ≤ (World.setCell w7 ⟨gt, 2, none⟩ (.slice (some ⟨gg, 0, none⟩) (ks.length + 1) cap')).heap.size := by simp [World.setCell]; omega
    have hKold : ∀ x, K x → x ≠ gt → (World.setCell w7 ⟨gt, 2, none⟩ (.slice (some ⟨gg, 0, none⟩) (ks.length + 1) cap')).heap[x]? = w6.heap[x]? := fun x hx hne => hold x (R6.inK x hx) hne (fun e => O6.nrk x e.symm hx)
    have R7 := R6.tree hs7 hKold O6.blk O7.blk hrow6 hdg
    have hF7 : Aft (Old w) gt w (World.setCell w7 ⟨gt, 2, none⟩ (.slice (some ⟨gg, 0, none⟩) (ks.length + 1) cap')) := ⟨by have := hF6.size; omega, fun x hx hne => (hKold x (Classical.byContradiction fun hk => by have := HKw.out x hk; have hx : x < w.heap.size := hx; omega) hne).trans (hF6.oth x hx hne), hF6.calm.trans hcm7⟩
    have hrow7 : RowF (World.setCell w7 ⟨gt, 2, none⟩ (.slice (some ⟨gg, 0, none⟩) (ks.length + 1) cap')) (fun x => K x ∧ x ≠ g ∧ x ≠ gt) A (tksC T) := hrow6.keep hs7 fun x hx _ => ⟨hKold x hx.1 hx.2.2, hx⟩
    have S : RdT K g gt d A c s T w (Tr.kidP s T i).2 (ks ++ [Tr.kdP s T i]) [] (World.setCell w7 ⟨gt, 2, none⟩ (.slice (some ⟨gg, 0, none⟩) (ks.length + 1) cap')) := ⟨hF7, ⟨_, _, R7⟩, ⟨_, _, _, _, _, _, O7⟩, hrow7⟩
    clear O7 hold hsz7 hcm7 hs7 hKold R7 hF7 hrow7 O6 hp R6 hF6 hrow6 b2 bf hg7 t2 hown7 hgrow hat hlt7 hgl
    generalize (World.setCell w7 ⟨gt, 2, none⟩ (.slice (some ⟨gg, 0, none⟩) (ks.length + 1) cap')) = w8 at *
    have c1 : IntKind.i64.wrap ((ks.length : Int) + 1) = (ks.length : Int) + 1 := IntWalk.i64_in _ (by omega)
    have hi2 : (Tr.kidP s T i).2 ≤ T.length := by obtain ⟨_, _, R⟩ := S.R; exact R.hi
    generalize (Tr.kidP s T i).2 = i2 at *
    go_wp2_with fail
    go_roundg (T.length - i2)
    case rel => exact ⟨i2, _, rfl, by rw [hlen7]; go_num, Nat.le_refl _, S, by have := Hgt.out; have := Hkl.out; rw [hlen7]; omega, Hk1, Hk2⟩
    case measure => have := Hgt.out; have := Hm.out; omega
  ·have hst := Tr.kids_stop s T i hlt
   rw [hst] at Hk1 Hk2
   have Hks : Hid (ks = all.1) := by show _ = _; have := Hk1.out; rwa [List.append_nil] at this
   have Hi2 : Hid (i = all.2) := Hk2.out
   have i1 : ¬ ((Tr.nextP T i : Nat) : Int) < (T.length : Int) := by omega
   have i2 : decide (Tr.nextP T i < T.length) = false := by simpa using hlt
   have i3 : (i : Int) ≤ (T.length : Int) := by omega
   have i4 : (0 : Int) ≤ (i : Int) := by omega
   have Hm := Lib.hid hm
   have Hkl := Lib.hid hkl
   clear hst Hk1 Hk2 hm hkl R O
   generalize Tr.nextP T i = nx at *
   clear hlt
   go_wp2_with fail
   go_quiet ((go_at_call 83; exact Calls.quiet_of_same (hnx _)))
   clear S
   have S := hS nq
   clear hS hnx t1
   generalize wr.drewN nq = w2 at *
   go_upto_region 16 with fail
   go_cut [105, 106, 107] (fun v z y wc => ∃ A' c', v = .slice A' (T.length - i) c' ∧ z = .int .i64 ((T.length - i : Nat) : Int) ∧ y = .int .i64 0 ∧ RdT K g gt d A c s T w i ks [] wc ∧ RowF wc (fun x => K x ∧ x ≠ g ∧ x ≠ gt) A' (tksC (T.drop i)))
   case first =>
    have hrow : RowF w2 (fun x => K x ∧ x ≠ g ∧ x ≠ gt) A (tksC T) := S.row
    have hS := fun m => S.drewN m
    obtain ⟨b, n, R⟩ := S.R
    have hi := R.hi
    obtain ⟨g0, g1, _, _⟩ := R.rs.cells
    obtain ⟨Av, cv, vs, At, ct, us, O⟩ := S.O
    have t1 := O.blk.cell 1
    simp at t1
    have i6 : (i : Int) ≤ (c : Int) := by omega
    have i7 : (T.length : Int) ≤ (c : Int) := by omega
    have Hi := Lib.hid hi
    have Hc := Lib.hid hc
    clear R O S hi
    rcases A with _ | ⟨ab, ao, ak⟩
    ·have hT0 : ¬ 0 < T.length := fun h => by
      obtain ⟨b, o, e, _⟩ := hrow (by have := tksC_len T; omega)
      cases e
     have hTn : T = [] := List.eq_nil_of_length_eq_zero (by omega)
     have hin : i = 0 := by have := Hi.out; omega
     have Hre : Hid (∀ m A', RowF (w2.drewN m) (fun x => K x ∧ x ≠ g ∧ x ≠ gt) A' (tksC (T.drop i))) := fun m A' hn => by
      rw [hTn] at hn
      exact absurd hn (by simp [tksC])
     clear hrow hT0 hTn
     subst hin
     go_wp2_with fail
     go_quiet (fail)
     go_wp2_with fail
     all_goals go_meet
     exact ⟨_, _, rfl, rfl, rfl, hS nq, Hre.out nq _⟩
    ·have Hrw : Hid (∀ m, i < T.length → RowF (w2.drewN m) (fun x => K x ∧ x ≠ g ∧ x ≠ gt) (some ⟨ab, ao + i * 3, ak⟩) (tksC (T.drop i))) := fun m hlt hn => by
      obtain ⟨b, o, e, hFb, hl, hcell⟩ := hrow (by have := tksC_len T; omega)
      injection e with e
      injection e with e1 e2 e3
      subst e1 e2 e3
      refine ⟨ab, ao + i * 3, rfl, hFb, hl, fun j u hu => ?_⟩
      have hj : (tksC T)[i * 3 + j]? = some u := by rw [← tksC_at3]; exact hu
      have := hcell _ _ hj
      rw [← Nat.add_assoc] at this
      exact this
     have Hre : Hid (∀ m A', i = T.length → RowF (w2.drewN m) (fun x => K x ∧ x ≠ g ∧ x ≠ gt) A' (tksC (T.drop i))) := fun m A' he hn => by
      rw [he, List.drop_length] at hn
      exact absurd hn (by simp [tksC])
     have Hak : Hid (i < T.length → ak = none) := fun hlt => by
      obtain ⟨b, o, e, _⟩ := hrow (by have := tksC_len T; omega)
      injection e with e
      injection e with e1 e2 e3
     clear hrow
     go_wp2_with fail
     go_quiet (fail)
     go_wp2_with fail
     all_goals go_meet
     ·rename_i hci
      exact ⟨_, _, rfl, rfl, rfl, hS nq, Hre.out nq _ (by have := Hi.out; have := Hc.out; omega)⟩
     ·by_cases he : i = T.length
      ·exact ⟨_, _, rfl, rfl, rfl, hS nq, Hre.out nq _ he⟩
      ·obtain rfl := Hak.out (by have := Hi.out; omega)
       have hrw := Hrw.out nq (by have := Hi.out; omega)
       have ha : (⟨ab, ao, none⟩ : Addr).add (i * 3) = ⟨ab, ao + i * 3, none⟩ := by
        simp only [Addr.add]
        split
        ·rename_i h0
         rw [h0, Nat.add_zero]
        ·rfl
       exact ⟨_, _, rfl, rfl, rfl, hS nq, by rw [ha]; exact hrw⟩
   case rest =>
   clear S
   obtain ⟨A', c', rfl, rfl, rfl, S, hrow'⟩ := hcut
   have hi : i ≤ T.length := by obtain ⟨_, _, R⟩ := S.R; exact R.hi
   have hall : Tr.tailP s T all.2 = leavesP s T 0 i T.length := by
    rw [← Hi2.out]
    unfold Tr.tailP leavesP
    rw [List.take_of_length_le (by rw [List.length_drop]; exact Nat.le_refl _)]
   have Hall := Lib.hid hall
   have Hi := Lib.hid hi
   clear hall Hi2 Hm hi i2 i3
   go_wp2_with fail
   go_loopg [107] (T.length - i) (fun m v wr => ∃ k : Nat, v = .int .i64 (k : Int) ∧ k ≤ T.length - i ∧ T.length - i - k ≤ m ∧ RdT K g gt d A c s T w i ks (leavesP s T 0 i (i + k)) wr ∧ RowF wr (fun x => K x ∧ x ≠ g ∧ x ≠ gt) A' (tksC (T.drop i)))
   case atStart => exact ⟨0, rfl, Nat.zero_le _, Nat.le_refl _, by rw [Nat.add_zero, leaves_self]; exact S, hrow'⟩
   case round =>
    clear S hrow'
    obtain ⟨k, rfl, hk, hm, S, hrow'⟩ := hrel
    have Hm := Lib.hid hm
    have Hk := Lib.hid hk
    by_cases hlt : k < T.length - i
    ·have j0 : (0 : Int) ≤ (k : Int) := by omega
     have j1 : (k : Int) < ((T.length - i : Nat) : Int) := by omega
     have hlt2 : i + k < T.length := by omega
     have hdl : (T.drop i).length = T.length - i := List.length_drop ..
     have hrow'' := hrow'
     obtain ⟨br, o, rfl, _, hbl, q0, q1, q2⟩ := hrow'.tk (k := k) (by rw [hdl]; exact hlt)
     have hge : (T.drop i)[k]'(by rw [hdl]; exact hlt) = T[i + k] := List.getElem_drop ..
     rw [hge] at q0 q1 q2
     clear hrow'
     have HL := Lib.hid (leaves_succ s T 0 i (i + k) (Nat.le_add_right _ _) hlt2)
     have hll := leaves_len s T 0 i (i + k)
     obtain ⟨h1, h2, h3⟩ := X.good.at_ hlt2
     have Hlf : Hid (Tr.leafP s 0 T[i + k] = .leaf T[i + k].1 (Tr.subT s T[i + k]) (T[i + k].2.1 - 0)) := rfl
     have Hsub := Lib.hid (sub_str s T[i + k])
     generalize T[i + k] = t at *
     obtain ⟨tk, ta, tl⟩ := t
     dsimp only at h1 h2 h3 q0 q1 q2 Hlf Hsub
     have HL2 : Hid (leavesP s T 0 i (i + (k + 1)) = leavesP s T 0 i (i + k) ++ [.leaf tk (Tr.subT s (tk, ta, tl)) ta]) := by
      show _ = _
      rw [← Nat.add_assoc, HL.out, Hlf.out, Nat.sub_zero]
     have hpl : (leavesP s T 0 i (i + k)).length ≤ 60000000 := by omega
     have hs := X.hs
     have a1 : (0 : Int) ≤ (ta : Int) + tl := by omega
     have a0 : IntKind.i64.wrap ((ta : Int) + tl) = (ta : Int) + tl := IntWalk.i64_in _ (by omega)
     have a2 : ((ta : Int) + tl).toNat = ta + tl := by omega
     have a3 : (ta : Int) + tl ≤ (s.length : Int) := by omega
     have a4 : (ta : Int) ≤ (ta : Int) + tl := by omega
     have a5 : ta ≤ ta + tl := by omega
     have a6 : ta + tl ≤ s.length := h1
     have HrowD : Hid (∀ w', Below wr.heap.size wr w' → RowF w' (fun x => K x ∧ x ≠ g ∧ x ≠ gt) (some ⟨br, o, none⟩) (tksC (T.drop i))) := fun w' hb => hrow''.keep hb.size fun x hx hl => ⟨hb.block x hl, hx⟩
     have Hlt := Lib.hid hlt
     clear HL Hlf hll hlt2 hdl hge hT hkl2 h1 h2 h3 hs hrow''
     generalize leavesP s T 0 i (i + k) = ts at *
     obtain ⟨bx, hbx⟩ : ∃ x, x = wr.heap.size := ⟨_, rfl⟩
     have hd : Below wr.heap.size wr (wr.alloc (.cells #[.int .i64 (tk : Int), .int .i64 (ta : Int), .int .i64 (tl : Int)] 131)) := (Below.refl _ _).alloc (Nat.le_refl _) _
     have S := S.below hd
     have hrow2 := HrowD.out _ hd
     have hBx : Blk (wr.alloc (.cells #[.int .i64 (tk : Int), .int .i64 (ta : Int), .int .i64 (tl : Int)] 131)) bx 131 #[.int .i64 (tk : Int), .int .i64 (ta : Int), .int .i64 (tl : Int)] := by rw [hbx]; exact Blk.new _ _ _
     clear hd HrowD
     go_upto_region 19 with fail
     rw [← hbx]
     clear hbx q0 q1 q2 hbl
     generalize (wr.alloc (.cells #[.int .i64 (tk : Int), .int .i64 (ta : Int), .int .i64 (tl : Int)] 131)) = w2 at *
     obtain ⟨Av, cv, vs, At, ct, us, O⟩ := S.O
     refine wp_region_G 26 (fun w' : World => w'.cell? ⟨gt, 3, none⟩ = some (.slice At ts.length ct) ∧ w'.cell? ⟨bx, 0, none⟩ = some (.int .i64 (tk : Int)) ∧ w'.cell? ⟨bx, 1, none⟩ = some (.int .i64 (ta : Int)) ∧ w'.cell? ⟨bx, 2, none⟩ = some (.int .i64 (tl : Int))) (by kernel_rfl) ?_
     have hd : Below w2.heap.size w2 w2.drew := (Below.refl _ _).drew
     have O := O.below hd
     have S := S.below hd
     have hBx := hBx.drew
     have hrow2 := hrow2.keep (F' := fun x => K x ∧ x ≠ g ∧ x ≠ gt) hd.size fun x hx hl => ⟨hd.block x hl, hx⟩
     clear hd
     generalize w2.drew = w3 at *
     obtain ⟨b, n, R⟩ := S.R
     have hrow := S.row
     have hF := S.F
     clear S
     have t3 := O.blk.cell 3
     have b0 := hBx.cell 0
     have b1 := hBx.cell 1
     have b2 := hBx.cell 2
     simp at t3 b0 b1 b2
     obtain ⟨d', _, _, t0, _, d0, _⟩ := R.rs.tr.cells
     have hS0 : (fun w' : World => w'.cell? ⟨gt, 3, none⟩ = some (.slice At ts.length ct) ∧ w'.cell? ⟨bx, 0, none⟩ = some (.int .i64 (tk : Int)) ∧ w'.cell? ⟨bx, 1, none⟩ = some (.int .i64 (ta : Int)) ∧ w'.cell? ⟨bx, 2, none⟩ = some (.int .i64 (tl : Int))) w3 := ⟨t3, b0, b1, b2⟩
     refine wpAnyG_tk 0 hS0 ?_
     simp only [Act.put, List.setIfInBounds_toArray]
     refine wpAnyG_tk 1 hS0 ?_
     simp only [Act.put]
     refine wpAnyG_tk 2 hS0 ?_
     simp only [Act.put]
     refine wpAnyG_tk 3 hS0 ?_
     simp only [Act.put]
     refine wpAnyG_tk 4 hS0 ?_
     simp only [Act.put]
     refine wpAnyG_tk 5 hS0 ?_
     simp only [Act.put]
     refine wpAnyG_tk 6 hS0 ?_
     simp only [Act.put]
     refine wpAnyG_tk 7 hS0 ?_
     simp only [Act.put]
     refine wpAnyG_tk 9 hS0 ?_
     simp only [Act.put]
     refine wpAnyG_tk 10 hS0 ?_
     simp only [Act.put]
     refine wpAnyG_tk 11 hS0 ?_
     simp only [Act.put]
     refine wpAnyG_tk 12 hS0 ?_
     simp only [Act.put]
     refine wpAnyG_tk 13 hS0 ?_
     simp only [Act.put]
     refine wpAnyG_tk 14 hS0 ?_
     simp only [Act.put]
     refine wpAnyG_tk 15 hS0 ?_
     simp only [Act.put]
     refine wpAnyG_tk 17 hS0 ?_
     simp only [Act.put]
     refine wpAnyG_tk 18 hS0 ?_
     simp only [Act.put]
     clear hS0
     refine wpAnyG_on 8 fun C hC => ?_
     go_simp
     ((with_reducible refine (ttext_walk t0 d0).mono ?_))
     rintro e w4 ⟨rfl, rfl⟩
     refine hC.out _ _ (fun _ => ⟨t3, b0, b1, b2⟩) ?_
     clear hC C
     refine wpAnyG_on 16 fun C hC => ?_
     go_simp
     refine hC.out _ _ (fun _ => ⟨t3, b0, b1, b2⟩) ?_
     clear hC C
     refine wpAnyG_on 19 fun C hC => ?_
     go_simp
     refine hC.out _ _ (fun _ => ⟨t3, b0, b1, b2⟩) ?_
     clear hC C
     have hd : Below w4.heap.size w4 (w4.alloc (.cells #[.int .i64 (tk : Int), .string ((⟨s.toArray⟩ : ByteArray).extract ta (ta + tl)), .int .i64 (ta : Int)] 106)) := (Below.refl _ _).alloc (Nat.le_refl _) _
     have hBg : Blk (w4.alloc (.cells #[.int .i64 (tk : Int), .string ((⟨s.toArray⟩ : ByteArray).extract ta (ta + tl)), .int .i64 (ta : Int)] 106)) w4.heap.size 106 #[.int .i64 (tk : Int), .string ((⟨s.toArray⟩ : ByteArray).extract ta (ta + tl)), .int .i64 (ta : Int)] := Blk.new _ _ _
     have hp : PtF (w4.alloc (.cells #[.int .i64 (tk : Int), .string ((⟨s.toArray⟩ : ByteArray).extract ta (ta + tl)), .int .i64 (ta : Int)] 106)) (fun x => ¬ K x ∧ some x ≠ (Value.slice Av ks.length cv).ownBlock ∧ some x ≠ (Value.slice At ts.length ct).ownBlock) (.leaf tk (Tr.subT s (tk, ta, tl)) ta) (.iface 104 (.pointer (some ⟨w4.heap.size, 0, none⟩))) :=
      ⟨w4.heap.size, rfl, ⟨fun hk => Nat.lt_irrefl _ (R.inK _ hk), fun e => by have := (O.ownk.lt _ e.symm).2; omega, fun e => by have := (O.ownt.lt _ e.symm).2; omega⟩, by rw [← show Value.string ((⟨s.toArray⟩ : ByteArray).extract ta (ta + tl)) = .string ⟨(Tr.subT s (tk, ta, tl)).toArray⟩ from Hsub.out]; exact hBg⟩
     have hbx3 := hBx.lt
     have hgl := O.blk.lt
     refine wpAnyG_on 20 fun C hC => ?_
     go_simp
     have hA : Aft (Old w) gt w (w4.alloc (.cells #[.int .i64 (tk : Int), .string ((⟨s.toArray⟩ : ByteArray).extract ta (ta + tl)), .int .i64 (ta : Int)] 106)) := hF.trans ⟨hd.size, fun x hx _ => hd.block x (Nat.lt_of_lt_of_le hx hF.size), Calm.below hd⟩
     have R := R.below hd
     have O := O.below hd
     have hrow : RowF (w4.alloc (.cells #[.int .i64 (tk : Int), .string ((⟨s.toArray⟩ : ByteArray).extract ta (ta + tl)), .int .i64 (ta : Int)] 106)) (fun x => K x ∧ x ≠ g ∧ x ≠ gt) A (tksC T) := hrow.keep hd.size fun x hx hl => ⟨hd.block x hl, hx⟩
     have hBx := hBx.alloc (.cells #[.int .i64 (tk : Int), .string ((⟨s.toArray⟩ : ByteArray).extract ta (ta + tl)), .int .i64 (ta : Int)] 106)
     have hrow2 := hrow2.keep (F' := fun x => K x ∧ x ≠ g ∧ x ≠ gt) hd.size fun x hx hl => ⟨hd.block x hl, hx⟩
     have t3 := O.blk.cell 3
     have b0 := hBx.cell 0
     have b1 := hBx.cell 1
     have b2 := hBx.cell 2
     simp at t3 b0 b1 b2
     refine hC.out _ _ (fun _ => ⟨by simpa using t3, by simpa using b0, by simpa using b1, by simpa using b2⟩) ?_
     clear hC C hd hBg t0 d0 hF
     obtain ⟨q, hq⟩ : ∃ q, q = w4.heap.size := ⟨_, rfl⟩
     rw [← hq] at hp ⊢
     clear hq
     generalize (w4.alloc (.cells #[.int .i64 (tk : Int), .string ((⟨s.toArray⟩ : ByteArray).extract ta (ta + tl)), .int .i64 (ta : Int)] 106)) = w6 at *
     refine wpAnyG_on 21 fun C hC => ?_
     go_simp
     refine hC.out _ _ (fun _ => ⟨t3, b0, b1, b2⟩) ?_
     clear hC C
     have hgl := O.blk.lt
     have hbl := hBx.lt
     refine wpAnyG_on 22 fun C hC => ?_
     go_simp
     refine hC.out _ _ (fun _ => ⟨(cell_alloc _ _ _ _ hgl).trans t3, (cell_alloc _ _ _ _ hbl).trans b0, (cell_alloc _ _ _ _ hbl).trans b1, (cell_alloc _ _ _ _ hbl).trans b2⟩) ?_
     clear hC C
     refine wpAnyG_on 23 fun C hC => ?_
     refine step_append_lies _ (by rfl) _ _ _ (by rfl) 0 94 i0 _ 1 16 Tryz.underlying85 ji jz0 jz1 jz2 rfl (by omega) (.slice At ts.length ct) ts.length us (by rfl) (O.ownt.alloc (.cells #[.iface 104 (.pointer (some ⟨q, 0, none⟩))] 94)) ⟨w6.heap.size, 0, none⟩ 1 1 [.iface 104 (.pointer (some ⟨q, 0, none⟩))] (by rfl) (by rfl) (World.news_of_block (heap_alloc_new w6 _)) (by simp [Value.oneCell']) (by omega) (by unfold maxLen; omega) (by omega) (Nat.zero_le _) (w6.heap.size + 1) (by simp) ?_
     intro gg cap' w7 hown7 hgrow hat hlt7
     have hpu := O.pushT R.inK R.rs.tr.kt hp hown7 hgrow hat
     have hg7 := (O.blk.alloc (.cells #[.iface 104 (.pointer (some ⟨q, 0, none⟩))] 94)).grown hgrow O.tne
     have e3 := hg7.cell 3
     have bf := hg7.frozen 3
     have hx7 := (hBx.alloc (.cells #[.iface 104 (.pointer (some ⟨q, 0, none⟩))] 94)).grown hgrow (own_ne O.ownt hBx (by decide))
     have e0 := hx7.cell 0
     have e1 := hx7.cell 1
     have e2 := hx7.cell 2
     simp at e3 e0 e1 e2
     refine hC.out _ _ (fun _ => ⟨e3, e0, e1, e2⟩) ?_
     clear hC C
     refine wpAnyG_on 24 fun C hC => ?_
     go_simp
     refine hC.out _ _ (fun _ => ⟨e3, e0, e1, e2⟩) ?_
     clear hC C
     refine wpAnyG_on 25 fun C hC => ?_
     go_simp
     refine hC.out _ _ (fun _ => ⟨e3, e0, e1, e2⟩) ?_
     clear hC C
     refine wpAnyG_on 26 fun C hC => ?_
     go_simp
     refine hC.out _ _ (fun h => absurd rfl h) ?_
     clear hC C
     refine wpAnyG_done (by kernel_rfl) ?_ _
     obtain ⟨O7, hold, hsz7, hcm7⟩ := hpu
     have hs7 : w6.heap.size ≤ (World.setCell w7 ⟨gt, 3, none⟩ (.slice (some ⟨gg, 0, none⟩) (ts.length + 1) cap')).heap.size := by simp [World.setCell]; omega
     have hKold : ∀ x, K x → x ≠ gt → (World.setCell w7 ⟨gt, 3, none⟩ (.slice (some ⟨gg, 0, none⟩) (ts.length + 1) cap')).heap[x]? = w6.heap[x]? := fun x hx hne => hold x (R.inK x hx) hne (fun e => O.nrt x e.symm hx)
     have R7 := R.tree hs7 hKold O.blk O7.blk hrow hdg
     have hF7 : Aft (Old w) gt w (World.setCell w7 ⟨gt, 3, none⟩ (.slice (some ⟨gg, 0, none⟩) (ts.length + 1) cap')) := ⟨by have := hA.size; omega, fun x hx hne => (hKold x (Classical.byContradiction fun hk => by have := HKw.out x hk; have hx : x < w.heap.size := hx; omega) hne).trans (hA.oth x hx hne), hA.calm.trans hcm7⟩
     have hrow7 : RowF (World.setCell w7 ⟨gt, 3, none⟩ (.slice (some ⟨gg, 0, none⟩) (ts.length + 1) cap')) (fun x => K x ∧ x ≠ g ∧ x ≠ gt) A (tksC T) := hrow.keep hs7 fun x hx _ => ⟨hKold x hx.1 hx.2.2, hx⟩
     have hrow8 : RowF (World.setCell w7 ⟨gt, 3, none⟩ (.slice (some ⟨gg, 0, none⟩) (ts.length + 1) cap')) (fun x => K x ∧ x ≠ g ∧ x ≠ gt) (some ⟨br, o, none⟩) (tksC (T.drop i)) := hrow2.keep hs7 fun x hx _ => ⟨hKold x hx.1 hx.2.2, hx⟩
     rw [← HL2.out] at O7
     have S : RdT K g gt d A c s T w i ks (leavesP s T 0 i (i + (k + 1))) (World.setCell w7 ⟨gt, 3, none⟩ (.slice (some ⟨gg, 0, none⟩) (ts.length + 1) cap')) := ⟨hF7, ⟨_, _, R7⟩, ⟨_, _, _, _, _, _, O7⟩, hrow7⟩
     clear O7 hold hsz7 hcm7 hs7 hKold R7 hF7 hrow7 O hp R hA hrow hrow2 hBx e0 e1 e2 e3 bf hg7 hx7 hown7 hgrow hat hlt7 hgl hbl t3 b0 b1 b2 a0 a1 a2 a3 a4 a5 a6 hbx3
     generalize (World.setCell w7 ⟨gt, 3, none⟩ (.slice (some ⟨gg, 0, none⟩) (ts.length + 1) cap')) = w8 at *
     have c1 : IntKind.i64.wrap ((k : Int) + 1) = (k : Int) + 1 := IntWalk.i64_in _ (by have := Hi.out; have := X.hT; have := Hlt.out; omega)
     go_wp2_with fail
     go_roundg (T.length - i - (k + 1))
     case rel => exact ⟨k + 1, by go_num, by have := Hlt.out; omega, Nat.le_refl _, S, hrow8⟩
     case measure => have := Hlt.out; have := Hm.out; omega
    ·have hke : i + k = T.length := by have := Hi.out; omega
     have j1 : ¬ (k : Int) < ((T.length - i : Nat) : Int) := by omega
     have j2 : decide (k < T.length - i) = false := by simpa using hlt
     rw [hke] at S
     clear hke hlt hrow' hk hm
     go_wp2_with fail
     go_ret
     obtain ⟨Av, cv, vs, At, ct, us, O⟩ := S.O
     refine ⟨⟨ks.length, rfl⟩, S.F, ?_⟩
     rw [Hall.out, ← Hks.out]
     exact O.done HKw.out
end
structure OTk (w : World) (K P : Nat → Prop) (gt d : Nat) (A : Option Addr) (n c : Nat) (ks : List Tr.Kd) (Av : Option Addr) (cv : Nat) (vs : List Value) (ts : List Tr.PT) (At : Option Addr) (ct : Nat) (us : List Value) : Prop where
 blk : Blk w gt 87 #[.pointer (some ⟨d, 0, none⟩), .slice A n c, .slice Av ks.length cv, .slice At ts.length ct]
 ownk : w.ownsRow 0 92 4 (.slice Av ks.length cv) ks.length vs
 ownt : w.ownsRow 0 94 1 (.slice At ts.length ct) ts.length us
 nrk : ∀ q, (Value.slice Av ks.length cv).ownBlock = some q → ¬ K q
 nrt : ∀ q, (Value.slice At ts.length ct).ownBlock = some q → ¬ K q
 kids : KdsF w (fun x => P x ∧ some x ≠ (Value.slice Av ks.length cv).ownBlock ∧ some x ≠ (Value.slice At ts.length ct).ownBlock) ks vs
 tail : PtsF w (fun x => P x ∧ some x ≠ (Value.slice Av ks.length cv).ownBlock ∧ some x ≠ (Value.slice At ts.length ct).ownBlock) ts us
section
variable {w w' w5 : World} {K P : Nat → Prop} {g gt d : Nat} {A : Option Addr} {n c : Nat} {ks : List Tr.Kd} {Av : Option Addr} {cv : Nat} {vs : List Value} {ts : List Tr.PT} {At : Option Addr} {ct : Nat} {us : List Value}
theorem OTk.aft (h : OTk w K P gt d A n c ks Av cv vs ts At ct us) (ha : Aft (Old w) g w w') (hg : K g) (hgt : gt ≠ g) (hP : ∀ x, P x → x ≠ g) : OTk w' K P gt d A n c ks Av cv vs ts At ct us := by
 have hne : ∀ x, ¬ K x → x ≠ g := fun x hx e => hx (e ▸ hg)
 exact ⟨h.blk.aft ha h.blk.lt hgt, own_of_block h.ownk fun q hq => ha.oth q (h.ownk.lt q hq).2 (hne _ (h.nrk q hq)), own_of_block h.ownt fun q hq => ha.oth q (h.ownt.lt q hq).2 (hne _ (h.nrt q hq)), h.nrk, h.nrt,
  KdsF.keep ha.size (fun b hF hl => ⟨ha.oth b hl (hP _ hF.1), hF⟩) _ _ h.kids, PtsF.keep ha.size (fun b hF hl => ⟨ha.oth b hl (hP _ hF.1), hF⟩) _ _ h.tail⟩
theorem OTk.below (h : OTk w K P gt d A n c ks Av cv vs ts At ct us) (hd : Below w.heap.size w w') : OTk w' K P gt d A n c ks Av cv vs ts At ct us :=
 ⟨h.blk.below hd h.blk.lt, own_of_block h.ownk fun q hq => hd.block q (h.ownk.lt q hq).2, own_of_block h.ownt fun q hq => hd.block q (h.ownt.lt q hq).2, h.nrk, h.nrt,
  KdsF.keep hd.size (fun b hF hl => ⟨hd.block b hl, hF⟩) _ _ h.kids, PtsF.keep hd.size (fun b hF hl => ⟨hd.block b hl, hF⟩) _ _ h.tail⟩
theorem OTk.ne (h : OTk w K P gt d A n c ks Av cv vs ts At ct us) {q : Nat} (hk : (Value.slice Av ks.length cv).ownBlock = some q) : (Value.slice At ts.length ct).ownBlock ≠ some q := fun ht => by
 obtain ⟨cs, fr, h1⟩ := own_ty h.ownk q hk
 obtain ⟨cs2, fr2, h2⟩ := own_ty h.ownt q ht
 rw [h1] at h2; injection h2 with h2; injection h2 with _ h2 _; exact absurd h2 (by decide)
theorem OTk.kne (h : OTk w K P gt d A n c ks Av cv vs ts At ct us) : some gt ≠ (Value.slice Av ks.length cv).ownBlock := own_ne h.ownk h.blk (by decide)
theorem OTk.tne (h : OTk w K P gt d A n c ks Av cv vs ts At ct us) : some gt ≠ (Value.slice At ts.length ct).ownBlock := own_ne h.ownt h.blk (by decide)
theorem OTk.pushK (h : OTk w K P gt d A n c ks Av cv vs ts At ct us) (hK : In K w) (hgt : K gt) (hPg : ∀ x, P x → x ≠ gt) {k : Tr.Kd} {q gg cap : Nat}
  (hp : PtF w (fun x => P x ∧ some x ≠ (Value.slice Av ks.length cv).ownBlock ∧ some x ≠ (Value.slice At ts.length ct).ownBlock) k.part (.iface 90 (.pointer (some ⟨q, 0, none⟩))))
  (hown : w5.ownsRow 0 92 4 (.slice (some ⟨gg, 0, none⟩) (ks.length + 1) cap) (ks.length + 1) (vs ++ [.pointer (some ⟨q, 0, none⟩), .int .i64 (k.base : Int), .int .i64 (k.first : Int), .int .i64 (k.last : Int)]))
  (hgrow : (w.alloc (.cells #[.pointer (some ⟨q, 0, none⟩), .int .i64 (k.base : Int), .int .i64 (k.first : Int), .int .i64 (k.last : Int)] 92)).grownBy w5 (Value.slice Av ks.length cv).ownBlock)
  (hat : (Value.slice Av ks.length cv).ownBlock = some gg ∨ gg = w.heap.size + 1) :
  OTk (w5.setCell ⟨gt, 2, none⟩ (.slice (some ⟨gg, 0, none⟩) (ks.length + 1) cap)) K P gt d A n c (ks ++ [k]) (some ⟨gg, 0, none⟩) cap (vs ++ [.pointer (some ⟨q, 0, none⟩), .int .i64 (k.base : Int), .int .i64 (k.first : Int), .int .i64 (k.last : Int)]) ts At ct us ∧
  (∀ x, x < w.heap.size → x ≠ gt → some x ≠ (Value.slice Av ks.length cv).ownBlock → (w5.setCell ⟨gt, 2, none⟩ (.slice (some ⟨gg, 0, none⟩) (ks.length + 1) cap)).heap[x]? = w.heap[x]?) ∧ w.heap.size ≤ w5.heap.size ∧ Calm w (w5.setCell ⟨gt, 2, none⟩ (.slice (some ⟨gg, 0, none⟩) (ks.length + 1) cap)) := by
 have hz := hgrow.size
 simp at hz
 have old : ∀ x, x < w.heap.size → x ≠ gt → some x ≠ (Value.slice Av ks.length cv).ownBlock → (w5.setCell ⟨gt, 2, none⟩ (.slice (some ⟨gg, 0, none⟩) (ks.length + 1) cap)).heap[x]? = w.heap[x]? := fun x hx hh hr =>
  ((Below.heap_setCell w5 ⟨gt, 2, none⟩ _ x hh).trans (hgrow.block x (by simp; omega) hr)).trans (Below.heap_alloc w _ x hx)
 have hgk : ¬ K gg := fun hk => by
  rcases hat with e | e
  ·exact h.nrk gg e hk
  ·have := hK gg hk; omega
 have hgn : ∀ x, x < w.heap.size → some x ≠ (Value.slice Av ks.length cv).ownBlock → some x ≠ some gg := fun x hx hr e => by
  rcases hat with e' | e'
  ·exact hr (e.trans e'.symm)
  ·injection e; omega
 have hgg : gt ≠ gg := fun e => hgn gt h.blk.lt h.kne (by rw [e])
 have hlen : (ks ++ [k]).length = ks.length + 1 := by simp
 have hB5 := ((h.blk.alloc (.cells #[.pointer (some ⟨q, 0, none⟩), .int .i64 (k.base : Int), .int .i64 (k.first : Int), .int .i64 (k.last : Int)] 92)).grown hgrow h.kne).set_ 2 (.slice (some ⟨gg, 0, none⟩) (ks.length + 1) cap)
 have hsz : w5.heap.size ≤ (w5.setCell ⟨gt, 2, none⟩ (.slice (some ⟨gg, 0, none⟩) (ks.length + 1) cap)).heap.size := by simp [World.setCell]
 have hFk : ∀ x, P x ∧ some x ≠ (Value.slice Av ks.length cv).ownBlock ∧ some x ≠ (Value.slice At ts.length ct).ownBlock → x < w.heap.size → (w5.setCell ⟨gt, 2, none⟩ (.slice (some ⟨gg, 0, none⟩) (ks.length + 1) cap)).heap[x]? = w.heap[x]? ∧ P x ∧ some x ≠ some gg ∧ some x ≠ (Value.slice At ts.length ct).ownBlock :=
  fun x hF hl => ⟨old x hl (hPg x hF.1) hF.2.1, hF.1, hgn x hl hF.2.1, hF.2.2⟩
 refine ⟨⟨?_, ?_, ?_, ?_, h.nrt, ?_, ?_⟩, old, by omega, ((show Calm w (w.alloc (.cells #[.pointer (some ⟨q, 0, none⟩), .int .i64 (k.base : Int), .int .i64 (k.first : Int), .int .i64 (k.last : Int)] 92)) from ⟨rfl, rfl, rfl⟩).trans ⟨hgrow.os, hgrow.tape, hgrow.output⟩).trans (Calm.set w5 _ _)⟩
 ·rw [hlen]; exact hB5
 ·rw [hlen]
  exact own_of_block hown fun y hy => Below.heap_setCell w5 ⟨gt, 2, none⟩ _ y (by simp only [Value.ownBlock, Option.some.injEq] at hy; subst hy; exact Ne.symm hgg)
 ·exact own_of_block h.ownt fun y hy => old y (h.ownt.lt y hy).2 (fun e => h.nrt y hy (e ▸ hgt)) (fun e => h.ne e.symm hy)
 ·intro y hy
  simp only [Value.ownBlock, Option.some.injEq] at hy
  subst hy; exact hgk
 ·rw [hlen]
  exact KdsF.snoc (KdsF.keep (by omega) hFk _ _ h.kids) (PtF.keep (by omega) hFk _ _ hp)
 ·rw [hlen]
  exact PtsF.keep (by omega) hFk _ _ h.tail
theorem OTk.pushT (h : OTk w K P gt d A n c ks Av cv vs ts At ct us) (hK : In K w) (hgt : K gt) (hPg : ∀ x, P x → x ≠ gt) {p : Tr.PT} {v : Value} {gg cap : Nat}
  (hp : PtF w (fun x => P x ∧ some x ≠ (Value.slice Av ks.length cv).ownBlock ∧ some x ≠ (Value.slice At ts.length ct).ownBlock) p v)
  (hown : w5.ownsRow 0 94 1 (.slice (some ⟨gg, 0, none⟩) (ts.length + 1) cap) (ts.length + 1) (us ++ [v]))
  (hgrow : (w.alloc (.cells #[v] 94)).grownBy w5 (Value.slice At ts.length ct).ownBlock)
  (hat : (Value.slice At ts.length ct).ownBlock = some gg ∨ gg = w.heap.size + 1) :
  OTk (w5.setCell ⟨gt, 3, none⟩ (.slice (some ⟨gg, 0, none⟩) (ts.length + 1) cap)) K P gt d A n c ks Av cv vs (ts ++ [p]) (some ⟨gg, 0, none⟩) cap (us ++ [v]) ∧
  (∀ x, x < w.heap.size → x ≠ gt → some x ≠ (Value.slice At ts.length ct).ownBlock → (w5.setCell ⟨gt, 3, none⟩ (.slice (some ⟨gg, 0, none⟩) (ts.length + 1) cap)).heap[x]? = w.heap[x]?) ∧ w.heap.size ≤ w5.heap.size ∧ Calm w (w5.setCell ⟨gt, 3, none⟩ (.slice (some ⟨gg, 0, none⟩) (ts.length + 1) cap)) := by
 have hz := hgrow.size
 simp at hz
 have old : ∀ x, x < w.heap.size → x ≠ gt → some x ≠ (Value.slice At ts.length ct).ownBlock → (w5.setCell ⟨gt, 3, none⟩ (.slice (some ⟨gg, 0, none⟩) (ts.length + 1) cap)).heap[x]? = w.heap[x]? := fun x hx hh hr =>
  ((Below.heap_setCell w5 ⟨gt, 3, none⟩ _ x hh).trans (hgrow.block x (by simp; omega) hr)).trans (Below.heap_alloc w _ x hx)
 have hgk : ¬ K gg := fun hk => by
  rcases hat with e | e
  ·exact h.nrt gg e hk
  ·have := hK gg hk; omega
 have hgn : ∀ x, x < w.heap.size → some x ≠ (Value.slice At ts.length ct).ownBlock → some x ≠ some gg := fun x hx hr e => by
  rcases hat with e' | e'
  ·exact hr (e.trans e'.symm)
  ·injection e; omega
 have hgg : gt ≠ gg := fun e => hgn gt h.blk.lt h.tne (by rw [e])
 have hlen : (ts ++ [p]).length = ts.length + 1 := by simp
 have hB5 := ((h.blk.alloc (.cells #[v] 94)).grown hgrow h.tne).set_ 3 (.slice (some ⟨gg, 0, none⟩) (ts.length + 1) cap)
 have hsz : w5.heap.size ≤ (w5.setCell ⟨gt, 3, none⟩ (.slice (some ⟨gg, 0, none⟩) (ts.length + 1) cap)).heap.size := by simp [World.setCell]
 have hFk : ∀ x, P x ∧ some x ≠ (Value.slice Av ks.length cv).ownBlock ∧ some x ≠ (Value.slice At ts.length ct).ownBlock → x < w.heap.size → (w5.setCell ⟨gt, 3, none⟩ (.slice (some ⟨gg, 0, none⟩) (ts.length + 1) cap)).heap[x]? = w.heap[x]? ∧ P x ∧ some x ≠ (Value.slice Av ks.length cv).ownBlock ∧ some x ≠ some gg :=
  fun x hF hl => ⟨old x hl (hPg x hF.1) hF.2.2, hF.1, hF.2.1, hgn x hl hF.2.2⟩
 refine ⟨⟨?_, ?_, ?_, h.nrk, ?_, ?_, ?_⟩, old, by omega, ((show Calm w (w.alloc (.cells #[v] 94)) from ⟨rfl, rfl, rfl⟩).trans ⟨hgrow.os, hgrow.tape, hgrow.output⟩).trans (Calm.set w5 _ _)⟩
 ·rw [hlen]; exact hB5
 ·exact own_of_block h.ownk fun y hy => old y (h.ownk.lt y hy).2 (fun e => h.nrk y hy (e ▸ hgt)) (fun e => h.ne hy e.symm)
 ·rw [hlen]
  exact own_of_block hown fun y hy => Below.heap_setCell w5 ⟨gt, 3, none⟩ _ y (by simp only [Value.ownBlock, Option.some.injEq] at hy; subst hy; exact Ne.symm hgg)
 ·intro y hy
  simp only [Value.ownBlock, Option.some.injEq] at hy
  subst hy; exact hgk
 ·rw [hlen]
  exact KdsF.keep (by omega) hFk _ _ h.kids
 ·rw [hlen]
  exact PtsF.app (PtsF.keep (by omega) hFk _ _ h.tail) (PtsF.one (PtF.keep (by omega) hFk _ _ hp))
end
theorem OTk.done {w : World} {K P F : Nat → Prop} {gt d : Nat} {A : Option Addr} {c : Nat} {T : List Tk} {ks : List Tr.Kd} {Av : Option Addr} {cv : Nat} {vs : List Value} {ts : List Tr.PT} {At : Option Addr} {ct : Nat} {us : List Value} (h : OTk w K P gt d A T.length c ks Av cv vs ts At ct us) (hF : ∀ x, ¬ K x → F x) (hP : ∀ x, P x → F x) : TreeIs w F gt d A c T ks ts := by
 obtain ⟨h1, h2⟩ := own_row (F := F) h.ownk fun q hq => hF q (h.nrk q hq)
 obtain ⟨h3, h4⟩ := own_row (F := F) h.ownt fun q hq => hF q (h.nrt q hq)
 exact ⟨Av, cv, At, ct, vs, us, h.blk, h1, h3, h2, KdsF.keep (Nat.le_refl _) (fun x hx _ => ⟨rfl, hP x hx.1⟩) _ _ h.kids, h4, PtsF.keep (Nat.le_refl _) (fun x hx _ => ⟨rfl, hP x hx.1⟩) _ _ h.tail⟩
end Go.Proofs.YtalklmeejdmifaaGreatDoor
namespace Go.Proofs.YtalklmeejdmifaaGreatDoor.Tr
def sh (o o' j : Nat) : Nat := o' + (j - o)
structure Agr (s : List UInt8) (T : List (Nat × Nat × Nat)) (b : Nat) (s' : List UInt8) (T' : List (Nat × Nat × Nat)) (b' o o' m : Nat) (E : Prop) : Prop where
 tok : ∀ x, x < m → ∃ t t', T[o + x]? = some t ∧ T'[o' + x]? = some t' ∧ t.1 = t'.1 ∧ subT s t = subT s' t' ∧ t.2.1 - b = t'.2.1 - b'
 len : o + m ≤ T.length
 len' : o' + m ≤ T'.length
 fin : E → o + m = T.length ∧ o' + m = T'.length ∧ s.length - b = s'.length - b'
def LA (T : List (Nat × Nat × Nat)) (o m : Nat) (E : Prop) (j : Nat) : Prop := nextP T j < o + m ∨ E
theorem next_mono (T : List (Nat × Nat × Nat)) : ∀ (n i : Nat), T.length - i ≤ n → ∀ j, i ≤ j → nextP T i ≤ nextP T j
 | 0, i, hn, j, hij => by rw [next_end T i (by omega)]; have := next_ge T j; omega
 | n + 1, i, hn, j, hij => by
  rcases Nat.lt_or_ge i T.length with h | h
  ·cases hb : blankT T[i] with
   | true =>
    rcases Nat.eq_or_lt_of_le hij with rfl | hlt
    ·exact Nat.le_refl _
    ·rw [next_go T i h hb]
     exact next_mono T n (i + 1) (by omega) j hlt
   | false =>
    rw [next_stop T i h hb]
    have := next_ge T j
    omega
  ·rw [next_end T i h]
   have := next_ge T j
   omega
theorem LA.mono {T : List (Nat × Nat × Nat)} {o m : Nat} {E : Prop} {i j : Nat} (h : LA T o m E j) (hij : i ≤ j) : LA T o m E i := by
 rcases h with h | h
 ·have := next_mono T _ i (Nat.le_refl _) j hij
  exact .inl (by omega)
 ·exact .inr h
section
variable {s : List UInt8} {T : List (Nat × Nat × Nat)} {b : Nat} {s' : List UInt8} {T' : List (Nat × Nat × Nat)} {b' o o' m : Nat} {E : Prop}
theorem Agr.at_ (H : Agr s T b s' T' b' o o' m E) {j : Nat} (ho : o ≤ j) (hj : j < o + m) : ∃ (h : j < T.length) (h' : sh o o' j < T'.length), T[j].1 = T'[sh o o' j].1 ∧ subT s T[j] = subT s' T'[sh o o' j] ∧ T[j].2.1 - b = T'[sh o o' j].2.1 - b' := by
 obtain ⟨t, t', h1, h2, h3, h4, h5⟩ := H.tok (j - o) (by omega)
 rw [show o + (j - o) = j by omega] at h1
 have h2 : T'[sh o o' j]? = some t' := h2
 obtain ⟨g1, e1⟩ := List.getElem?_eq_some_iff.1 h1
 obtain ⟨g2, e2⟩ := List.getElem?_eq_some_iff.1 h2
 exact ⟨g1, g2, by rw [e1, e2]; exact h3, by rw [e1, e2]; exact h4, by rw [e1, e2]; exact h5⟩
theorem LA.le (H : Agr s T b s' T' b' o o' m E) {j : Nat} (h : LA T o m E j) (hj : j ≤ T.length) : j ≤ o + m := by
 rcases h with h | h
 ·have := next_ge T j; omega
 ·have := (H.fin h).1; omega
theorem next_loc (H : Agr s T b s' T' b' o o' m E) : ∀ (n j : Nat), o + m - j ≤ n → o ≤ j → j ≤ T.length → LA T o m E j → nextP T' (sh o o' j) = sh o o' (nextP T j)
 | 0, j, hn, ho, hj, h => by
  have h1 := h.le H hj
  rcases h with h | h
  ·have := next_ge T j; omega
  ·obtain ⟨e1, e2, _⟩ := H.fin h
   rw [next_end T j (by omega), next_end T' _ (by unfold sh; omega)]
 | n + 1, j, hn, ho, hj, h => by
  have h1 := h.le H hj
  rcases Nat.lt_or_ge j (o + m) with hlt | hge
  ·obtain ⟨g, g', e1, _, _⟩ := H.at_ ho hlt
   have eb : blankT T[j] = blankT T'[sh o o' j] := by unfold blankT; rw [e1]
   cases hb : blankT T[j] with
   | true =>
    rw [next_go T j g hb, next_go T' _ g' (by rw [← eb]; exact hb)]
    have hh : LA T o m E (j + 1) := by unfold LA; rw [← next_go T j g hb]; exact h
    have ih := next_loc H n (j + 1) (by omega) (by omega) (by omega) hh
    rw [show sh o o' j + 1 = sh o o' (j + 1) by unfold sh; omega]
    exact ih
   | false =>
    rw [next_stop T j g hb, next_stop T' _ g' (by rw [← eb]; exact hb)]
  ·rcases h with h | h
   ·have := next_ge T j; omega
   ·obtain ⟨e1, e2, _⟩ := H.fin h
    rw [next_end T j (by omega), next_end T' _ (by unfold sh; omega)]
theorem kind_loc (H : Agr s T b s' T' b' o o' m E) {j : Nat} (ho : o ≤ j) (hj : j ≤ T.length) (h : LA T o m E j) : kindP T' (nextP T' (sh o o' j)) = kindP T (nextP T j) ∧ textP s' T' (nextP T' (sh o o' j)) = textP s T (nextP T j) := by
 rw [next_loc H _ j (Nat.le_refl _) ho hj h]
 have hg := next_ge T j
 rcases Nat.lt_or_ge (nextP T j) (o + m) with hlt | hge
 ·obtain ⟨g, g', e1, e2, _⟩ := H.at_ (by omega : o ≤ nextP T j) hlt
  rw [kind_at T _ g, kind_at T' _ g', text_at s T _ g, text_at s' T' _ g']
  exact ⟨e1.symm, e2.symm⟩
 ·rcases h with h | h
  ·omega
  ·obtain ⟨e1, e2, _⟩ := H.fin h
   rw [kind_end T _ (by omega), kind_end T' _ (by unfold sh; omega), text_end s T _ (by omega), text_end s' T' _ (by unfold sh; omega)]
   exact ⟨rfl, rfl⟩
theorem is_loc (H : Agr s T b s' T' b' o o' m E) {j : Nat} (ho : o ≤ j) (hj : j ≤ T.length) (h : LA T o m E j) (l : List (List UInt8)) : isP s' T' l (sh o o' j) = isP s T l j := by
 obtain ⟨h1, h2⟩ := kind_loc H ho hj h
 unfold isP
 rw [h1, h2]
theorem place_loc (H : Agr s T b s' T' b' o o' m E) {j : Nat} (ho : o ≤ j) (hj : j ≤ T.length) (h : LA T o m E j) : placeP s' T' b' (sh o o' j) = placeP s T b j := by
 have h1 := h.le H hj
 unfold placeP
 rcases Nat.lt_or_ge j (o + m) with hlt | hge
 ·obtain ⟨g, g', _, _, e3⟩ := H.at_ ho hlt
  rw [abs_at s T j g, abs_at s' T' _ g']
  exact e3.symm
 ·rcases h with h | h
  ·have := next_ge T j; omega
  ·obtain ⟨e1, e2, e3⟩ := H.fin h
   rw [abs_end s T j (by omega), abs_end s' T' _ (by unfold sh; omega)]
   exact e3.symm
structure Lf (T : List (Nat × Nat × Nat)) (o o' m : Nat) (E : Prop) (f f' : Nat → St) : Prop where
 adv : ∀ j, j ≤ T.length → j ≤ (f j).2 ∧ (f j).2 ≤ T.length
 eq : ∀ j, o ≤ j → j ≤ T.length → LA T o m E (f j).2 → f' (sh o o' j) = ((f j).1, sh o o' (f j).2)
structure Ls (T : List (Nat × Nat × Nat)) (o o' m : Nat) (E : Prop) (i : Nat) (st st' : St) : Prop where
 up : i ≤ st.2
 le : st.2 ≤ T.length
 from_ : o ≤ i
 eq : LA T o m E st.2 → st' = (st.1, sh o o' st.2)
theorem Lf.at_ {f f' : Nat → St} (hf : Lf T o o' m E f f') {j : Nat} (ho : o ≤ j) (hj : j ≤ T.length) : Ls T o o' m E j (f j) (f' (sh o o' j)) := ⟨(hf.adv j hj).1, (hf.adv j hj).2, ho, hf.eq j ho hj⟩
theorem Lf.of {f f' : Nat → St} {c : Nat} (ha : Adv T f c) (h : ∀ j, o ≤ j → j ≤ T.length → Ls T o o' m E j (f j) (f' (sh o o' j))) : Lf T o o' m E f f' := ⟨fun j hj => ⟨(ha j hj).1, (ha j hj).2.1⟩, fun j ho hj => (h j ho hj).eq⟩
theorem Ls.thn {i : Nat} {st st' : St} {f f' : Nat → St} (h : Ls T o o' m E i st st') (hf : Lf T o o' m E f f') : Ls T o o' m E i (thn st f) (thn st' f') := by
 obtain ⟨a1, a2⟩ := hf.adv st.2 h.le
 refine ⟨Nat.le_trans h.up a1, a2, h.from_, fun hL => ?_⟩
 have hL : LA T o m E (f st.2).2 := hL
 have e1 := h.eq (hL.mono a1)
 have e2 := hf.eq st.2 (Nat.le_trans h.from_ h.up) h.le hL
 rw [e1]
 unfold Tr.thn
 dsimp only
 rw [e2]
theorem Ls.ite (H : Agr s T b s' T' b' o o' m E) {i : Nat} {st st' u u' v v' : St} {l : List (List UInt8)} (h : Ls T o o' m E i st st') (hu : Ls T o o' m E i u u') (hv : Ls T o o' m E i v v') (h1 : v.2 ≤ st.2) (h2 : v.2 ≤ u.2) :
  Ls T o o' m E i (if isP s T l v.2 then st else u) (if isP s' T' l v'.2 then st' else u') := by
 have hc : ∀ w : St, v.2 ≤ w.2 → LA T o m E w.2 → isP s' T' l v'.2 = isP s T l v.2 := fun w hw hL => by
  have hL := hL.mono hw
  rw [hv.eq hL]
  exact is_loc H (Nat.le_trans hv.from_ hv.up) hv.le hL l
 cases hi : isP s T l v.2 with
 | true =>
  rw [if_pos rfl]
  exact ⟨h.up, h.le, h.from_, fun hL => by rw [hc st h1 hL, hi, if_pos rfl]; exact h.eq hL⟩
 | false =>
  rw [if_neg (by simp)]
  exact ⟨hu.up, hu.le, hu.from_, fun hL => by rw [hc u h2 hL, hi, if_neg (by simp)]; exact hu.eq hL⟩
theorem Ls.br (H : Agr s T b s' T' b' o o' m E) {i kind : Nat} {st st' : St} (hi : i ≤ T.length) (h : Ls T o o' m E i st st') : Ls T o o' m E i (oneP (brP s T b kind i st)) (oneP (brP s' T' b' kind (sh o o' i) st')) := by
 refine ⟨h.up, h.le, h.from_, fun hL => ?_⟩
 have hL : LA T o m E st.2 := hL
 rw [h.eq hL]
 unfold brP oneP
 dsimp only
 rw [place_loc H h.from_ hi (hL.mono h.up)]
theorem Ls.nil {i : Nat} (ho : o ≤ i) (hi : i ≤ T.length) : Ls T o o' m E i ([], i) ([], sh o o' i) := ⟨Nat.le_refl _, hi, ho, fun _ => rfl⟩
variable (H : Agr s T b s' T' b' o o' m E)
include H
theorem take_loc : Lf T o o' m E (takeP s T b) (takeP s' T' b') := by
 refine Lf.of (take_adv s T b) fun j ho hj => ⟨to_ge T j hj, to_le T j, ho, fun hL => ?_⟩
 have hL : LA T o m E (toP T j) := hL
 have hge := to_ge T j hj
 have hLj := hL.mono hge
 have hn := next_loc H _ j (Nat.le_refl _) ho hj hLj
 have hle := hL.le H (to_le T j)
 have hto : toP T' (sh o o' j) = sh o o' (toP T j) := by
  unfold toP at hle ⊢
  rw [hn]
  have hng := next_ge T j
  have hnl := next_le T j hj
  have h1 := H.len
  have h2 := H.len'
  rcases Nat.lt_or_ge (nextP T j) T.length with hlt | hge
  ·unfold sh; omega
  ·rcases hLj with h | h
   ·omega
   ·obtain ⟨e1, e2, _⟩ := H.fin h
    unfold sh; omega
 unfold takeP
 rw [hto]
 refine Prod.ext ?_ rfl
 dsimp only
 have hk : sh o o' (toP T j) - sh o o' j = toP T j - j := by unfold sh; omega
 rw [hk]
 apply List.ext_getElem?
 intro k
 rw [List.getElem?_map, List.getElem?_map, List.getElem?_take, List.getElem?_take, List.getElem?_drop, List.getElem?_drop]
 by_cases hkl : k < toP T j - j
 ·rw [if_pos hkl, if_pos hkl]
  obtain ⟨g, g', e1, e2, e3⟩ := H.at_ (by omega : o ≤ j + k) (by omega)
  have es : sh o o' j + k = sh o o' (j + k) := by unfold sh; omega
  rw [es, List.getElem?_eq_getElem g, List.getElem?_eq_getElem g']
  simp only [Option.map_some, leafP]
  rw [e1, e2, e3]
 ·rw [if_neg hkl, if_neg hkl]; rfl
theorem miss_loc (w : List UInt8) : Lf T o o' m E (missP s T b w) (missP s' T' b' w) := Lf.of (miss_adv s T b w) fun j ho hj => ⟨Nat.le_refl _, hj, ho, fun hL => by
 unfold missP
 rw [place_loc H ho hj hL]⟩
theorem want_loc (w : List UInt8) : Lf T o o' m E (wantP s T b w) (wantP s' T' b' w) := Lf.of (want_adv s T b w) fun j ho hj => by
 unfold wantP
 exact ((take_loc H).at_ ho hj).ite H ((miss_loc H w).at_ ho hj) (Ls.nil ho hj) (((take_loc H).at_ ho hj).up) (Nat.le_refl _)
end
end Go.Proofs.YtalklmeejdmifaaGreatDoor.Tr
namespace Go.Proofs.YtalklmeejdmifaaGreatDoor.Lx
def enc (c : Nat) : List UInt8 := (Utf8.encode c).data.toList
theorem tw_pre (p : UInt8 → Bool) : ∀ (q u : List UInt8), ((q ++ u).takeWhile p).length < q.length → q.takeWhile p = (q ++ u).takeWhile p ∧ ∃ x ∈ q, p x = false
 | [], u, h => by simp at h
 | a :: q, u, h => by
  cases ha : p a with
  | true =>
   simp only [List.cons_append, List.takeWhile_cons, ha, if_true, List.length_cons] at h ⊢
   obtain ⟨h1, x, hx, hp⟩ := tw_pre p q u (by omega)
   exact ⟨by rw [h1], x, by simp [hx], hp⟩
  | false =>
   refine ⟨by simp [ha], a, by simp, ha⟩
theorem code_pre (r u : List UInt8) (c m : Nat) (h : codeM (r ++ u) = some (c, m)) (hm : m ≤ r.length) : codeM r = some (c, m) := by
 have h3 := (code_le _ _ _ h).1
 cases r with
 | nil => simp at hm; omega
 | cons b q =>
  rw [List.cons_append] at h
  unfold codeM at h ⊢
  simp only at h ⊢
  split at h
  ·cases h
  ·rename_i hb
   rw [if_neg hb]
   split at h
   ·cases h
   ·(try simp only at h ⊢)
    split at h
    ·cases h
    ·rename_i hl
     split at h
     ·cases h
     ·rename_i n hn
      split at h
      ·cases h
      ·rename_i hx
       injection h with h; injection h with h1 h2
       simp only [List.length_cons] at hm
       obtain ⟨e, x, hx1, hx2⟩ := tw_pre (· != 125) q u (by omega)
       have hmem : (125 : UInt8) ∈ q := by
        have : x = 125 := by simpa using hx2
        rwa [← this]
       rw [if_neg (by simpa using hmem), e, if_neg hl, hn]
       simp only
       rw [if_neg hx, h1, h2]
theorem esc_pre (t u : List UInt8) (c n : Nat) (h : escM (t ++ u) = some (c, n)) (hn : n ≤ t.length) : escM t = some (c, n) := by
 have h1 := (esc_le _ _ _ h).1
 cases t with
 | nil => simp at hn; omega
 | cons a r =>
  rw [List.cons_append] at h
  unfold escM at h ⊢
  simp only at h ⊢
  split at h
  ·rename_i g; rw [if_pos g]; exact h
  ·rename_i g; rw [if_neg g]
   split at h
   ·rename_i g2; rw [if_pos g2]; exact h
   ·rename_i g2; rw [if_neg g2]
    split at h
    ·rename_i g3; rw [if_pos g3]; exact h
    ·rename_i g3; rw [if_neg g3]
     split at h
     ·rename_i g4
      rw [if_pos g4]
      rw [Option.map_eq_some_iff] at h ⊢
      obtain ⟨⟨c', n'⟩, hc, he⟩ := h
      refine ⟨(c', n'), code_pre r u c' n' hc ?_, he⟩
      injection he with e1 e2
      simp only [List.length_cons] at hn
      omega
     ·cases h
end Go.Proofs.YtalklmeejdmifaaGreatDoor.Lx
