/-
  JOINED of the texts UJ LX DA DK UL UM YC SE
-/
import Derived.Test.YtcjjfeephaddcaaGreatDoorJai
import Derived.Laws.AppendOwnNone
set_option linter.all false
namespace Go.Proofs.YtcjjfeephaddcaaGreatDoor
open Go.RowKit
theorem tksC_at3 : ∀ (T : List Tk) (i j : Nat), (tksC (T.drop i))[j]? = (tksC T)[i * 3 + j]?
 | T, 0, j => by simp
 | [], i + 1, j => by simp [tksC]
 | t :: T, i + 1, j => by
  rw [List.drop_succ_cons, tksC_at3 T i j]
  have e : tksC (t :: T) = tkC t ++ tksC T := by simp [tksC]
  rw [e, List.getElem?_append_right (by simp [tkC]; omega)]
  congr 1
  simp [tkC]
  omega
theorem infoKid : (Tryz.prog.info? 116).map (fun i => (i.zero, i.size, i.bytes)) = some (some (.agg #[.pointer none, .int .i64 0, .int .i64 0, .int .i64 0]), 4, 32) := by kernel_rfl
structure RdT (K : Nat → Prop) (g gt d : Nat) (A : Option Addr) (c : Nat) (s : Bs) (T : List Tk) (w0 : World) (i : Nat) (ks : List Tr.Kd) (ts : List Tr.PT) (w : World) : Prop where
 F : Aft (Old w0) gt w0 w
 R : ∃ b n, Rdr w K g gt s T b n i
 O : ∃ Av cv vs At ct us, OTr w K gt d A T.length c ks Av cv vs ts At ct us
 row : RowF w (fun x => K x ∧ x ≠ g ∧ x ≠ gt) A (tksC T)
section
variable {w0 w w' : World} {K : Nat → Prop} {g gt d : Nat} {A : Option Addr} {c : Nat} {s : Bs} {T : List Tk} {i : Nat} {ks : List Tr.Kd} {ts : List Tr.PT}
theorem RdT.below (S : RdT K g gt d A c s T w0 i ks ts w) (hd : Below w.heap.size w w') : RdT K g gt d A c s T w0 i ks ts w' := by
 obtain ⟨b, n, R⟩ := S.R
 obtain ⟨Av, cv, vs, At, ct, us, O⟩ := S.O
 exact ⟨S.F.trans ⟨hd.size, fun x hx _ => hd.block x (Nat.lt_of_lt_of_le hx S.F.size), Calm.below hd⟩, ⟨b, n, R.below hd⟩, ⟨Av, cv, vs, At, ct, us, O.below hd⟩, S.row.keep hd.size fun x hx hl => ⟨hd.block x hl, hx⟩⟩
theorem RdT.drewN (S : RdT K g gt d A c s T w0 i ks ts w) (m : Nat) : RdT K g gt d A c s T w0 i ks ts (w.drewN m) := S.below (below_drewN (Below.refl _ _) m)
set_option maxHeartbeats 16000000 in
set_option maxRecDepth 100000 in
theorem read_nil (X : Txts s T) (hB : Blk w gt 131 #[.pointer (some ⟨d, 0, none⟩), .slice A T.length c, .slice none 0 0, .slice none 0 0]) {D : Value} (hD : Blk w d 202 #[.string ⟨s.toArray⟩, D]) (hrow : RowF w (fun x => x ≠ gt) A (tksC T)) (hc : T.length ≤ c) :
  Calls Tryz.prog 53 #[.pointer (some ⟨gt, 0, none⟩), .slice none 0 0, .int .i64 0, .int .i64 0] w fun e w' => ∃ n : Nat, e = .returned (.int .i64 (n : Int)) ∧ Aft (Old w) gt w w' ∧ TreeIs w' (fun x => w.heap.size ≤ x) gt d A c T (Tr.kidsP s T (T.length + 1) 0).1 (Tr.tailP s T (Tr.kidsP s T (T.length + 1) 0).2) := by
 obtain ⟨k0, ki, kz0, kz1, kz2⟩ := info_parts infoKid
 obtain ⟨i0, ji, jz0, jz1, jz2⟩ := info_parts infoPart
 have hdg : d ≠ gt := fun e => by subst e; have := hB.symm.trans hD; injection this with this; injection this with _ this; exact absurd this (by decide)
 have hgl := hB.lt
 have hdl := hD.lt
 have hd0 : Below w.heap.size w (w.alloc (.cells #[.pointer (some ⟨gt, 0, none⟩), .int .i64 0, .int .i64 0, .int .i64 0] 205)) := (Below.refl _ _).alloc (Nat.le_refl _) _
 obtain ⟨g, hg⟩ : ∃ g, g = w.heap.size := ⟨_, rfl⟩
 have HG : Hid (w.heap.size ≤ g) := by show _ ≤ _; omega
 have S : RdT (fun x => x < w.heap.size + 1) g gt d A c s T w 0 [] [] (w.alloc (.cells #[.pointer (some ⟨gt, 0, none⟩), .int .i64 0, .int .i64 0, .int .i64 0] 205)) := by
  refine ⟨Aft.below hd0 (Old.in_ w), ⟨0, 0, ⟨⟨by rw [hg]; exact Blk.new _ _ _, by show _ < _; omega, by show _ < _; omega, by omega, d, A, c, D, (), _, _, hB.alloc _, by show _ < _; omega, by omega, hD.alloc _, hrow.keep hd0.size fun x hx hl => ⟨hd0.block x hl, by show _ < _; omega, by omega⟩, rfl⟩, fun x hx => by simp; exact hx, Nat.zero_le _, Nat.zero_le _⟩⟩, ⟨none, 0, [], none, 0, [], ⟨hB.alloc _, World.ownsRow_nil _ _ _ _, World.ownsRow_nil _ _ _ _, fun q hq => by simp [Value.ownBlock] at hq, fun q hq => by simp [Value.ownBlock] at hq, rfl, rfl⟩⟩, hrow.keep hd0.size fun x hx hl => ⟨hd0.block x hl, by show _ < _; omega, by omega, hx⟩⟩
 obtain ⟨K, hK⟩ : ∃ K : Nat → Prop, K = fun x => x < w.heap.size + 1 := ⟨_, rfl⟩
 have HKw : Hid (∀ x, ¬ K x → w.heap.size ≤ x) := fun x hx => by rw [hK] at hx; have hx : ¬ x < w.heap.size + 1 := hx; omega
 rw [← hK] at S
 clear hB hD hrow hd0 hgl hdl hK
 obtain ⟨all, hal⟩ : ∃ a, a = Tr.kidsP s T (T.length + 1) 0 := ⟨_, rfl⟩
 rw [← hal]
 have Hal : Hid (Tr.kidsP s T (T.length + 1) 0 = all) := hal.symm
 clear hal
 go_enter Tryz.func53, Tryz.ntmps53
 go_upto_region 2 with fail
 rw [← hg]
 clear hg
 generalize w.alloc (.cells #[.pointer (some ⟨gt, 0, none⟩), .int .i64 0, .int .i64 0, .int .i64 0] 205) = w1 at *
 go_wp2_with fail
 go_loopg [1, 10] (T.length) (fun m v u wr => ∃ (i : Nat) (ks : List Tr.Kd), v = .slice none 0 0 ∧ u = .int .i64 (ks.length : Int) ∧ T.length - i ≤ m ∧ RdT K g gt d A c s T w i ks [] wr ∧ ks.length ≤ i ∧ Hid (ks ++ (Tr.kidsP s T (T.length + 1) i).1 = all.1) ∧ Hid ((Tr.kidsP s T (T.length + 1) i).2 = all.2))
 case atStart => exact ⟨0, [], rfl, rfl, Nat.sub_le _ _, S, Nat.le_refl _, by show _ = _; rw [Hal.out]; rfl, by show _ = _; rw [Hal.out]⟩
 case round =>
  clear S Hal
  obtain ⟨i, ks, rfl, rfl, hm, S, hkl, Hk1, Hk2⟩ := hrel
  have hS := fun m => S.drewN m
  obtain ⟨b, n, R⟩ := S.R
  have hi := R.hi
  have hnx := fun m => next_walkT (R.drewN m).rs hi (by have := X.hT; omega)
  obtain ⟨Av, cv, vs, At, ct, us, O⟩ := S.O
  have t1 := O.blk.cell 1
  simp at t1
  have hT := X.hT
  have hkl2 : ks.length ≤ 4194304 := by omega
  by_cases hlt : Tr.nextP T i < T.length
  ·have i1 : ((Tr.nextP T i : Nat) : Int) < (T.length : Int) := by omega
   have hst := Tr.kids_step s T i hi hlt
   have hgt := Tr.kid_gt s T i hi hlt
   rw [hst] at Hk1 Hk2
   have Hk1 : Hid ((ks ++ [Tr.kdP s T i]) ++ (Tr.kidsP s T (T.length + 1) (Tr.kidP s T i).2).1 = all.1) := by
    show _ = _
    rw [← Hk1.out, List.append_assoc]
    rfl
   have Hk2 : Hid ((Tr.kidsP s T (T.length + 1) (Tr.kidP s T i).2).2 = all.2) := Hk2
   have Hgt := Lib.hid hgt
   have Hm := Lib.hid hm
   have Hkl := Lib.hid hkl
   have Hi := Lib.hid hi
   clear hst hgt hlt R O S hm hkl hi hT
   generalize Tr.nextP T i = nx at *
   go_wp2_with fail
   go_quiet ((go_at_call 104; exact Calls.quiet_of_same (hnx _)))
   have S := hS nq
   clear hS hnx t1
   generalize wr.drewN nq = w2 at *
   go_wp2_with fail
   go_loopg [1] 0 (fun q v wr => v = .slice none 0 0 ∧ RdT K g gt d A c s T w i ks [] wr)
   case atStart => exact ⟨rfl, S⟩
   case round =>
    clear S
    obtain ⟨rfl, S⟩ := hrel
    have hS := fun m => S.drewN m
    clear S
    go_wp2_with fail
    go_quiet (fail)
    have S := hS nq
    clear hS
    generalize World.drewN _ nq = w3 at *
    have hS := fun m => S.drewN m
    clear S
    go_wp2_with fail
    go_quiet (fail)
    have S := hS nq
    clear hS
    generalize w3.drewN nq = w4 at *
    obtain ⟨Av, cv, vs, At, ct, us, O⟩ := S.O
    go_wp2_with fail
    refine wp_region_G 11 (fun w' : World => w'.cell? ⟨gt, 2, none⟩ = some (.slice Av ks.length cv)) (by kernel_rfl) ?_
    have hd : Below w4.heap.size w4 w4.drew := (Below.refl _ _).drew
    have O := O.below hd
    have S := S.below hd
    clear hd
    generalize w4.drew = w5 at *
    obtain ⟨b, n, R⟩ := S.R
    have hrow := S.row
    have hF := S.F
    clear S
    have t2 := O.blk.cell 2
    simp at t2
    have hS0 : (fun w' : World => w'.cell? ⟨gt, 2, none⟩ = some (.slice Av ks.length cv)) w5 := t2
    refine wpAnyG_tk 0 hS0 ?_
    simp only [Act.put, List.setIfInBounds_toArray]
    refine wpAnyG_tk 1 hS0 ?_
    simp only [Act.put]
    refine wpAnyG_tk 2 hS0 ?_
    simp only [Act.put]
    refine wpAnyG_tk 3 hS0 ?_
    simp only [Act.put]
    refine wpAnyG_tk 4 hS0 ?_
    simp only [Act.put]
    refine wpAnyG_tk 5 hS0 ?_
    simp only [Act.put]
    clear hS0
    have hkd := kid_walk X R.old
    refine wpAnyG_on 6 fun C hC => ?_
    go_simp
    ((with_reducible refine hkd.mono ?_))
    clear hkd
    intro e w6 h6
    obtain ⟨q, rfl, hA6, R6, hp6⟩ := h6
    have hgt : K gt := R.rs.tr.kt
    have hgK : K g := R.rs.tr.kg
    have hne : gt ≠ g := R.rs.tr.ne
    have hK0 := R.inK
    have O6 := O.aft hA6 hgK hne
    have hA6K := hA6.old hK0
    have R6 := R.from_any R6 hA6K
    have hgg : w.heap.size ≤ g := HG.out
    have hF6 : Aft (Old w) gt w w6 := hF.trans ⟨hA6.size, fun x hx _ => hA6.oth x (Nat.lt_of_lt_of_le hx hF.size) (by have hx : x < w.heap.size := hx; omega), hA6.calm⟩
    have hrow6 : RowF w6 (fun x => K x ∧ x ≠ g ∧ x ≠ gt) A (tksC T) := hrow.keep hA6.size fun x hx hl => ⟨hA6.oth x hl hx.2.1, hx⟩
    have hp : PtF w6 (fun x => ¬ K x ∧ some x ≠ (Value.slice Av ks.length cv).ownBlock ∧ some x ≠ (Value.slice At ([] : List Tr.PT).length ct).ownBlock) (Tr.kidP s T i).1 (.iface 114 (.pointer (some ⟨q, 0, none⟩))) :=
     PtF.keep (Nat.le_refl _) (fun x hF _ => ⟨rfl, fun hk => hF (hK0 x hk), fun e => hF (O.ownk.lt x e.symm).2, fun e => hF (O.ownt.lt x e.symm).2⟩) _ _ hp6
    clear O R hF hrow hp6 hA6 hA6K
    have t2 := O6.blk.cell 2
    simp at t2
    refine hC.out _ _ (fun _ => t2) ?_
    clear hC C
    have hkl2 : ks.length ≤ 4194304 := by have := Hkl.out; have := Hi.out; have := X.hT; omega
    have hgl := O6.blk.lt
    refine wpAnyG_on 7 fun C hC => ?_
    go_simp
    refine hC.out _ _ (fun _ => (cell_alloc _ _ _ _ hgl).trans t2) ?_
    clear hC C
    refine wpAnyG_on 8 fun C hC => ?_
    refine step_append_lies _ (by rfl) _ _ _ (by rfl) 0 116 k0 _ 4 32 Tryz.underlying112 ki kz0 kz1 kz2 rfl (by omega) (.slice Av ks.length cv) ks.length vs (by rfl) (O6.ownk.alloc (.cells #[.pointer (some ⟨q, 0, none⟩), .int .i64 (Tr.absP s T i : Int), .int .i64 (i : Int), .int .i64 ((Tr.kidP s T i).2 : Int)] 116)) ⟨w6.heap.size, 0, none⟩ 1 1 #[.pointer (some ⟨q, 0, none⟩), .int .i64 (Tr.absP s T i : Int), .int .i64 (i : Int), .int .i64 ((Tr.kidP s T i).2 : Int)].toList (by rfl) (by rfl) (World.news_of_block (heap_alloc_new w6 _)) (by simp [Value.oneCell']) (by omega) (by unfold maxLen; omega) (by omega) (Nat.zero_le _) (w6.heap.size + 1) (by simp) ?_
    intro gg cap' w7 hown7 hgrow hat hlt7
    have hpu := O6.pushK R6.inK hgt (k := Tr.kdP s T i) hp hown7 hgrow hat
    have hg7 := (O6.blk.alloc (.cells #[.pointer (some ⟨q, 0, none⟩), .int .i64 (Tr.absP s T i : Int), .int .i64 (i : Int), .int .i64 ((Tr.kidP s T i).2 : Int)] 116)).grown hgrow O6.kne
    have b2 := hg7.cell 2
    have bf := hg7.frozen 2
    simp at b2
    refine hC.out _ _ (fun _ => b2) ?_
    clear hC C
    refine wpAnyG_on 9 fun C hC => ?_
    go_simp
    refine hC.out _ _ (fun _ => b2) ?_
    clear hC C
    refine wpAnyG_on 10 fun C hC => ?_
    go_simp
    refine hC.out _ _ (fun _ => b2) ?_
    clear hC C
    refine wpAnyG_on 11 fun C hC => ?_
    go_simp
    refine hC.out _ _ (fun h => absurd rfl h) ?_
    clear hC C
    refine wpAnyG_done (by kernel_rfl) ?_ _
    obtain ⟨O7, hold, hsz7, hcm7⟩ := hpu
    have hlen7 : (ks ++ [Tr.kdP s T i]).length = ks.length + 1 := by simp
    have hs7 : w6.heap.size ≤ (World.setCell w7 ⟨gt, 2, none⟩ (.slice (some ⟨gg, 0, none⟩) (ks.length + 1) cap')).heap.size := by simp [World.setCell]; omega
    have hKold : ∀ x, K x → x ≠ gt → (World.setCell w7 ⟨gt, 2, none⟩ (.slice (some ⟨gg, 0, none⟩) (ks.length + 1) cap')).heap[x]? = w6.heap[x]? := fun x hx hne => hold x (R6.inK x hx) hne (fun e => O6.nrk x e.symm hx)
    have R7 := R6.tree hs7 hKold O6.blk O7.blk hrow6 hdg
    have hF7 : Aft (Old w) gt w (World.setCell w7 ⟨gt, 2, none⟩ (.slice (some ⟨gg, 0, none⟩) (ks.length + 1) cap')) := ⟨by have := hF6.size; omega, fun x hx hne => (hKold x (Classical.byContradiction fun hk => by have := HKw.out x hk; have hx : x < w.heap.size := hx; omega) hne).trans (hF6.oth x hx hne), hF6.calm.trans hcm7⟩
    have hrow7 : RowF (World.setCell w7 ⟨gt, 2, none⟩ (.slice (some ⟨gg, 0, none⟩) (ks.length + 1) cap')) (fun x => K x ∧ x ≠ g ∧ x ≠ gt) A (tksC T) := hrow6.keep hs7 fun x hx _ => ⟨hKold x hx.1 hx.2.2, hx⟩
    have S : RdT K g gt d A c s T w (Tr.kidP s T i).2 (ks ++ [Tr.kdP s T i]) [] (World.setCell w7 ⟨gt, 2, none⟩ (.slice (some ⟨gg, 0, none⟩) (ks.length + 1) cap')) := ⟨hF7, ⟨_, _, R7⟩, ⟨_, _, _, _, _, _, O7⟩, hrow7⟩
    clear O7 hold hsz7 hcm7 hs7 hKold R7 hF7 hrow7 O6 hp R6 hF6 hrow6 b2 bf hg7 t2 hown7 hgrow hat hlt7 hgl
    generalize (World.setCell w7 ⟨gt, 2, none⟩ (.slice (some ⟨gg, 0, none⟩) (ks.length + 1) cap')) = w8 at *
    have c1 : IntKind.i64.wrap ((ks.length : Int) + 1) = (ks.length : Int) + 1 := IntWalk.i64_in _ (by omega)
    have hi2 : (Tr.kidP s T i).2 ≤ T.length := by obtain ⟨_, _, R⟩ := S.R; exact R.hi
    generalize (Tr.kidP s T i).2 = i2 at *
    go_wp2_with fail
    go_roundg (T.length - i2)
    case rel => exact ⟨i2, _, rfl, by rw [hlen7]; go_num, Nat.le_refl _, S, by have := Hgt.out; have := Hkl.out; rw [hlen7]; omega, Hk1, Hk2⟩
    case measure => have := Hgt.out; have := Hm.out; omega
  ·have hst := Tr.kids_stop s T i hlt
   rw [hst] at Hk1 Hk2
   have Hks : Hid (ks = all.1) := by show _ = _; have := Hk1.out; rwa [List.append_nil] at this
   have Hi2 : Hid (i = all.2) := Hk2.out
   have i1 : ¬ ((Tr.nextP T i : Nat) : Int) < (T.length : Int) := by omega
   have i2 : decide (Tr.nextP T i < T.length) = false := by simpa using hlt
   have i3 : (i : Int) ≤ (T.length : Int) := by omega
   have i4 : (0 : Int) ≤ (i : Int) := by omega
   have Hm := Lib.hid hm
   have Hkl := Lib.hid hkl
   clear hst Hk1 Hk2 hm hkl R O
   generalize Tr.nextP T i = nx at *
   clear hlt
   go_wp2_with fail
   go_quiet ((go_at_call 104; exact Calls.quiet_of_same (hnx _)))
   clear S
   have S := hS nq
   clear hS hnx t1
   generalize wr.drewN nq = w2 at *
   go_upto_region 16 with fail
   go_cut [105, 106, 107] (fun v z y wc => ∃ A' c', v = .slice A' (T.length - i) c' ∧ z = .int .i64 ((T.length - i : Nat) : Int) ∧ y = .int .i64 0 ∧ RdT K g gt d A c s T w i ks [] wc ∧ RowF wc (fun x => K x ∧ x ≠ g ∧ x ≠ gt) A' (tksC (T.drop i)))
   case first =>
    have hrow : RowF w2 (fun x => K x ∧ x ≠ g ∧ x ≠ gt) A (tksC T) := S.row
    have hS := fun m => S.drewN m
    obtain ⟨b, n, R⟩ := S.R
    have hi := R.hi
    obtain ⟨g0, g1, _, _⟩ := R.rs.cells
    obtain ⟨Av, cv, vs, At, ct, us, O⟩ := S.O
    have t1 := O.blk.cell 1
    simp at t1
    have i6 : (i : Int) ≤ (c : Int) := by omega
    have i7 : (T.length : Int) ≤ (c : Int) := by omega
    have Hi := Lib.hid hi
    have Hc := Lib.hid hc
    clear R O S hi
    rcases A with _ | ⟨ab, ao, ak⟩
    ·have hT0 : ¬ 0 < T.length := fun h => by
      obtain ⟨b, o, e, _⟩ := hrow (by have := tksC_len T; omega)
      cases e
     have hTn : T = [] := List.eq_nil_of_length_eq_zero (by omega)
     have hin : i = 0 := by have := Hi.out; omega
     have Hre : Hid (∀ m A', RowF (w2.drewN m) (fun x => K x ∧ x ≠ g ∧ x ≠ gt) A' (tksC (T.drop i))) := fun m A' hn => by
      rw [hTn] at hn
      exact absurd hn (by simp [tksC])
     clear hrow hT0 hTn
     subst hin
     go_wp2_with fail
     go_quiet (fail)
     go_wp2_with fail
     all_goals go_meet
     exact ⟨_, _, rfl, rfl, rfl, hS nq, Hre.out nq _⟩
    ·have Hrw : Hid (∀ m, i < T.length → RowF (w2.drewN m) (fun x => K x ∧ x ≠ g ∧ x ≠ gt) (some ⟨ab, ao + i * 3, ak⟩) (tksC (T.drop i))) := fun m hlt hn => by
      obtain ⟨b, o, e, hFb, hl, hcell⟩ := hrow (by have := tksC_len T; omega)
      injection e with e
      injection e with e1 e2 e3
      subst e1 e2 e3
      refine ⟨ab, ao + i * 3, rfl, hFb, hl, fun j u hu => ?_⟩
      have hj : (tksC T)[i * 3 + j]? = some u := by rw [← tksC_at3]; exact hu
      have := hcell _ _ hj
      rw [← Nat.add_assoc] at this
      exact this
     have Hre : Hid (∀ m A', i = T.length → RowF (w2.drewN m) (fun x => K x ∧ x ≠ g ∧ x ≠ gt) A' (tksC (T.drop i))) := fun m A' he hn => by
      rw [he, List.drop_length] at hn
      exact absurd hn (by simp [tksC])
     have Hak : Hid (i < T.length → ak = none) := fun hlt => by
      obtain ⟨b, o, e, _⟩ := hrow (by have := tksC_len T; omega)
      injection e with e
      injection e with e1 e2 e3
     clear hrow
     go_wp2_with fail
     go_quiet (fail)
     go_wp2_with fail
     all_goals go_meet
     ·rename_i hci
      exact ⟨_, _, rfl, rfl, rfl, hS nq, Hre.out nq _ (by have := Hi.out; have := Hc.out; omega)⟩
     ·by_cases he : i = T.length
      ·exact ⟨_, _, rfl, rfl, rfl, hS nq, Hre.out nq _ he⟩
      ·obtain rfl := Hak.out (by have := Hi.out; omega)
       have hrw := Hrw.out nq (by have := Hi.out; omega)
       have ha : (⟨ab, ao, none⟩ : Addr).add (i * 3) = ⟨ab, ao + i * 3, none⟩ := by
        simp only [Addr.add]
        split
        ·rename_i h0
         rw [h0, Nat.add_zero]
        ·rfl
       exact ⟨_, _, rfl, rfl, rfl, hS nq, by rw [ha]; exact hrw⟩
   case rest =>
   clear S
   obtain ⟨A', c', rfl, rfl, rfl, S, hrow'⟩ := hcut
   have hi : i ≤ T.length := by obtain ⟨_, _, R⟩ := S.R; exact R.hi
   have hall : Tr.tailP s T all.2 = leavesP s T 0 i T.length := by
    rw [← Hi2.out]
    unfold Tr.tailP leavesP
    rw [List.take_of_length_le (by rw [List.length_drop]; exact Nat.le_refl _)]
   have Hall := Lib.hid hall
   have Hi := Lib.hid hi
   clear hall Hi2 Hm hi i2 i3
   go_wp2_with fail
   go_loopg [107] (T.length - i) (fun m v wr => ∃ k : Nat, v = .int .i64 (k : Int) ∧ k ≤ T.length - i ∧ T.length - i - k ≤ m ∧ RdT K g gt d A c s T w i ks (leavesP s T 0 i (i + k)) wr ∧ RowF wr (fun x => K x ∧ x ≠ g ∧ x ≠ gt) A' (tksC (T.drop i)))
   case atStart => exact ⟨0, rfl, Nat.zero_le _, Nat.le_refl _, by rw [Nat.add_zero, leaves_self]; exact S, hrow'⟩
   case round =>
    clear S hrow'
    obtain ⟨k, rfl, hk, hm, S, hrow'⟩ := hrel
    have Hm := Lib.hid hm
    have Hk := Lib.hid hk
    by_cases hlt : k < T.length - i
    ·have j0 : (0 : Int) ≤ (k : Int) := by omega
     have j1 : (k : Int) < ((T.length - i : Nat) : Int) := by omega
     have hlt2 : i + k < T.length := by omega
     have hdl : (T.drop i).length = T.length - i := List.length_drop ..
     have hrow'' := hrow'
     obtain ⟨br, o, rfl, _, hbl, q0, q1, q2⟩ := hrow'.tk (k := k) (by rw [hdl]; exact hlt)
     have hge : (T.drop i)[k]'(by rw [hdl]; exact hlt) = T[i + k] := List.getElem_drop ..
     rw [hge] at q0 q1 q2
     clear hrow'
     have HL := Lib.hid (leaves_succ s T 0 i (i + k) (Nat.le_add_right _ _) hlt2)
     have hll := leaves_len s T 0 i (i + k)
     obtain ⟨h1, h2, h3⟩ := X.good.at_ hlt2
     have Hlf : Hid (Tr.leafP s 0 T[i + k] = .leaf T[i + k].1 (Tr.subT s T[i + k]) (T[i + k].2.1 - 0)) := rfl
     have Hsub := Lib.hid (sub_str s T[i + k])
     generalize T[i + k] = t at *
     obtain ⟨tk, ta, tl⟩ := t
     dsimp only at h1 h2 h3 q0 q1 q2 Hlf Hsub
     have HL2 : Hid (leavesP s T 0 i (i + (k + 1)) = leavesP s T 0 i (i + k) ++ [.leaf tk (Tr.subT s (tk, ta, tl)) ta]) := by
      show _ = _
      rw [← Nat.add_assoc, HL.out, Hlf.out, Nat.sub_zero]
     have hpl : (leavesP s T 0 i (i + k)).length ≤ 60000000 := by omega
     have hs := X.hs
     have a1 : (0 : Int) ≤ (ta : Int) + tl := by omega
     have a0 : IntKind.i64.wrap ((ta : Int) + tl) = (ta : Int) + tl := IntWalk.i64_in _ (by omega)
     have a2 : ((ta : Int) + tl).toNat = ta + tl := by omega
     have a3 : (ta : Int) + tl ≤ (s.length : Int) := by omega
     have a4 : (ta : Int) ≤ (ta : Int) + tl := by omega
     have a5 : ta ≤ ta + tl := by omega
     have a6 : ta + tl ≤ s.length := h1
     have HrowD : Hid (∀ w', Below wr.heap.size wr w' → RowF w' (fun x => K x ∧ x ≠ g ∧ x ≠ gt) (some ⟨br, o, none⟩) (tksC (T.drop i))) := fun w' hb => hrow''.keep hb.size fun x hx hl => ⟨hb.block x hl, hx⟩
     have Hlt := Lib.hid hlt
     clear HL Hlf hll hlt2 hdl hge hT hkl2 h1 h2 h3 hs hrow''
     generalize leavesP s T 0 i (i + k) = ts at *
     obtain ⟨bx, hbx⟩ : ∃ x, x = wr.heap.size := ⟨_, rfl⟩
     have hd : Below wr.heap.size wr (wr.alloc (.cells #[.int .i64 (tk : Int), .int .i64 (ta : Int), .int .i64 (tl : Int)] 127)) := (Below.refl _ _).alloc (Nat.le_refl _) _
     have S := S.below hd
     have hrow2 := HrowD.out _ hd
     have hBx : Blk (wr.alloc (.cells #[.int .i64 (tk : Int), .int .i64 (ta : Int), .int .i64 (tl : Int)] 127)) bx 127 #[.int .i64 (tk : Int), .int .i64 (ta : Int), .int .i64 (tl : Int)] := by rw [hbx]; exact Blk.new _ _ _
     clear hd HrowD
     go_upto_region 19 with fail
     rw [← hbx]
     clear hbx q0 q1 q2 hbl
     generalize (wr.alloc (.cells #[.int .i64 (tk : Int), .int .i64 (ta : Int), .int .i64 (tl : Int)] 127)) = w2 at *
     obtain ⟨Av, cv, vs, At, ct, us, O⟩ := S.O
     refine wp_region_G 26 (fun w' : World => w'.cell? ⟨gt, 3, none⟩ = some (.slice At ts.length ct) ∧ w'.cell? ⟨bx, 0, none⟩ = some (.int .i64 (tk : Int)) ∧ w'.cell? ⟨bx, 1, none⟩ = some (.int .i64 (ta : Int)) ∧ w'.cell? ⟨bx, 2, none⟩ = some (.int .i64 (tl : Int))) (by kernel_rfl) ?_
     have hd : Below w2.heap.size w2 w2.drew := (Below.refl _ _).drew
     have O := O.below hd
     have S := S.below hd
     have hBx := hBx.drew
     have hrow2 := hrow2.keep (F' := fun x => K x ∧ x ≠ g ∧ x ≠ gt) hd.size fun x hx hl => ⟨hd.block x hl, hx⟩
     clear hd
     generalize w2.drew = w3 at *
     obtain ⟨b, n, R⟩ := S.R
     have hrow := S.row
     have hF := S.F
     clear S
     have t3 := O.blk.cell 3
     have b0 := hBx.cell 0
     have b1 := hBx.cell 1
     have b2 := hBx.cell 2
     simp at t3 b0 b1 b2
     obtain ⟨d', _, _, t0, _, d0, _⟩ := R.rs.tr.cells
     have hS0 : (fun w' : World => w'.cell? ⟨gt, 3, none⟩ = some (.slice At ts.length ct) ∧ w'.cell? ⟨bx, 0, none⟩ = some (.int .i64 (tk : Int)) ∧ w'.cell? ⟨bx, 1, none⟩ = some (.int .i64 (ta : Int)) ∧ w'.cell? ⟨bx, 2, none⟩ = some (.int .i64 (tl : Int))) w3 := ⟨t3, b0, b1, b2⟩
     refine wpAnyG_tk 0 hS0 ?_
     simp only [Act.put, List.setIfInBounds_toArray]
     refine wpAnyG_tk 1 hS0 ?_
     simp only [Act.put]
     refine wpAnyG_tk 2 hS0 ?_
     simp only [Act.put]
     refine wpAnyG_tk 3 hS0 ?_
     simp only [Act.put]
     refine wpAnyG_tk 4 hS0 ?_
     simp only [Act.put]
     refine wpAnyG_tk 5 hS0 ?_
     simp only [Act.put]
     refine wpAnyG_tk 6 hS0 ?_
     simp only [Act.put]
     refine wpAnyG_tk 7 hS0 ?_
     simp only [Act.put]
     refine wpAnyG_tk 9 hS0 ?_
     simp only [Act.put]
     refine wpAnyG_tk 10 hS0 ?_
     simp only [Act.put]
     refine wpAnyG_tk 11 hS0 ?_
     simp only [Act.put]
     refine wpAnyG_tk 12 hS0 ?_
     simp only [Act.put]
     refine wpAnyG_tk 13 hS0 ?_
     simp only [Act.put]
     refine wpAnyG_tk 14 hS0 ?_
     simp only [Act.put]
     refine wpAnyG_tk 15 hS0 ?_
     simp only [Act.put]
     refine wpAnyG_tk 17 hS0 ?_
     simp only [Act.put]
     refine wpAnyG_tk 18 hS0 ?_
     simp only [Act.put]
     clear hS0
     refine wpAnyG_on 8 fun C hC => ?_
     go_simp
     ((with_reducible refine (ttext_walk t0 d0).mono ?_))
     rintro e w4 ⟨rfl, rfl⟩
     refine hC.out _ _ (fun _ => ⟨t3, b0, b1, b2⟩) ?_
     clear hC C
     refine wpAnyG_on 16 fun C hC => ?_
     go_simp
     refine hC.out _ _ (fun _ => ⟨t3, b0, b1, b2⟩) ?_
     clear hC C
     refine wpAnyG_on 19 fun C hC => ?_
     go_simp
     refine hC.out _ _ (fun _ => ⟨t3, b0, b1, b2⟩) ?_
     clear hC C
     have hd : Below w4.heap.size w4 (w4.alloc (.cells #[.int .i64 (tk : Int), .string ((⟨s.toArray⟩ : ByteArray).extract ta (ta + tl)), .int .i64 (ta : Int)] 173)) := (Below.refl _ _).alloc (Nat.le_refl _) _
     have hBg : Blk (w4.alloc (.cells #[.int .i64 (tk : Int), .string ((⟨s.toArray⟩ : ByteArray).extract ta (ta + tl)), .int .i64 (ta : Int)] 173)) w4.heap.size 173 #[.int .i64 (tk : Int), .string ((⟨s.toArray⟩ : ByteArray).extract ta (ta + tl)), .int .i64 (ta : Int)] := Blk.new _ _ _
     have hp : PtF (w4.alloc (.cells #[.int .i64 (tk : Int), .string ((⟨s.toArray⟩ : ByteArray).extract ta (ta + tl)), .int .i64 (ta : Int)] 173)) (fun x => ¬ K x ∧ some x ≠ (Value.slice Av ks.length cv).ownBlock ∧ some x ≠ (Value.slice At ts.length ct).ownBlock) (.leaf tk (Tr.subT s (tk, ta, tl)) ta) (.iface 171 (.pointer (some ⟨w4.heap.size, 0, none⟩))) :=
      ⟨w4.heap.size, rfl, ⟨fun hk => Nat.lt_irrefl _ (R.inK _ hk), fun e => by have := (O.ownk.lt _ e.symm).2; omega, fun e => by have := (O.ownt.lt _ e.symm).2; omega⟩, by rw [← show Value.string ((⟨s.toArray⟩ : ByteArray).extract ta (ta + tl)) = .string ⟨(Tr.subT s (tk, ta, tl)).toArray⟩ from Hsub.out]; exact hBg⟩
     have hbx3 := hBx.lt
     have hgl := O.blk.lt
     refine wpAnyG_on 20 fun C hC => ?_
     go_simp
     have hA : Aft (Old w) gt w (w4.alloc (.cells #[.int .i64 (tk : Int), .string ((⟨s.toArray⟩ : ByteArray).extract ta (ta + tl)), .int .i64 (ta : Int)] 173)) := hF.trans ⟨hd.size, fun x hx _ => hd.block x (Nat.lt_of_lt_of_le hx hF.size), Calm.below hd⟩
     have R := R.below hd
     have O := O.below hd
     have hrow : RowF (w4.alloc (.cells #[.int .i64 (tk : Int), .string ((⟨s.toArray⟩ : ByteArray).extract ta (ta + tl)), .int .i64 (ta : Int)] 173)) (fun x => K x ∧ x ≠ g ∧ x ≠ gt) A (tksC T) := hrow.keep hd.size fun x hx hl => ⟨hd.block x hl, hx⟩
     have hBx := hBx.alloc (.cells #[.int .i64 (tk : Int), .string ((⟨s.toArray⟩ : ByteArray).extract ta (ta + tl)), .int .i64 (ta : Int)] 173)
     have hrow2 := hrow2.keep (F' := fun x => K x ∧ x ≠ g ∧ x ≠ gt) hd.size fun x hx hl => ⟨hd.block x hl, hx⟩
     have t3 := O.blk.cell 3
     have b0 := hBx.cell 0
     have b1 := hBx.cell 1
     have b2 := hBx.cell 2
     simp at t3 b0 b1 b2
     refine hC.out _ _ (fun _ => ⟨by simpa using t3, by simpa using b0, by simpa using b1, by simpa using b2⟩) ?_
     clear hC C hd hBg t0 d0 hF
     obtain ⟨q, hq⟩ : ∃ q, q = w4.heap.size := ⟨_, rfl⟩
     rw [← hq] at hp ⊢
     clear hq
     generalize (w4.alloc (.cells #[.int .i64 (tk : Int), .string ((⟨s.toArray⟩ : ByteArray).extract ta (ta + tl)), .int .i64 (ta : Int)] 173)) = w6 at *
     refine wpAnyG_on 21 fun C hC => ?_
     go_simp
     refine hC.out _ _ (fun _ => ⟨t3, b0, b1, b2⟩) ?_
     clear hC C
     have hgl := O.blk.lt
     have hbl := hBx.lt
     refine wpAnyG_on 22 fun C hC => ?_
     go_simp
     refine hC.out _ _ (fun _ => ⟨(cell_alloc _ _ _ _ hgl).trans t3, (cell_alloc _ _ _ _ hbl).trans b0, (cell_alloc _ _ _ _ hbl).trans b1, (cell_alloc _ _ _ _ hbl).trans b2⟩) ?_
     clear hC C
     refine wpAnyG_on 23 fun C hC => ?_
     refine step_append_lies _ (by rfl) _ _ _ (by rfl) 0 122 i0 _ 1 16 Tryz.underlying119 ji jz0 jz1 jz2 rfl (by omega) (.slice At ts.length ct) ts.length us (by rfl) (O.ownt.alloc (.cells #[.iface 171 (.pointer (some ⟨q, 0, none⟩))] 122)) ⟨w6.heap.size, 0, none⟩ 1 1 [.iface 171 (.pointer (some ⟨q, 0, none⟩))] (by rfl) (by rfl) (World.news_of_block (heap_alloc_new w6 _)) (by simp [Value.oneCell']) (by omega) (by unfold maxLen; omega) (by omega) (Nat.zero_le _) (w6.heap.size + 1) (by simp) ?_
     intro gg cap' w7 hown7 hgrow hat hlt7
     have hpu := O.pushT R.inK R.rs.tr.kt hp hown7 hgrow hat
     have hg7 := (O.blk.alloc (.cells #[.iface 171 (.pointer (some ⟨q, 0, none⟩))] 122)).grown hgrow O.tne
     have e3 := hg7.cell 3
     have bf := hg7.frozen 3
     have hx7 := (hBx.alloc (.cells #[.iface 171 (.pointer (some ⟨q, 0, none⟩))] 122)).grown hgrow (own_ne O.ownt hBx (by decide))
     have e0 := hx7.cell 0
     have e1 := hx7.cell 1
     have e2 := hx7.cell 2
     simp at e3 e0 e1 e2
     refine hC.out _ _ (fun _ => ⟨e3, e0, e1, e2⟩) ?_
     clear hC C
     refine wpAnyG_on 24 fun C hC => ?_
     go_simp
     refine hC.out _ _ (fun _ => ⟨e3, e0, e1, e2⟩) ?_
     clear hC C
     refine wpAnyG_on 25 fun C hC => ?_
     go_simp
     refine hC.out _ _ (fun _ => ⟨e3, e0, e1, e2⟩) ?_
     clear hC C
     refine wpAnyG_on 26 fun C hC => ?_
     go_simp
     refine hC.out _ _ (fun h => absurd rfl h) ?_
     clear hC C
     refine wpAnyG_done (by kernel_rfl) ?_ _
     obtain ⟨O7, hold, hsz7, hcm7⟩ := hpu
     have hs7 : w6.heap.size ≤ (World.setCell w7 ⟨gt, 3, none⟩ (.slice (some ⟨gg, 0, none⟩) (ts.length + 1) cap')).heap.size := by simp [World.setCell]; omega
     have hKold : ∀ x, K x → x ≠ gt → (World.setCell w7 ⟨gt, 3, none⟩ (.slice (some ⟨gg, 0, none⟩) (ts.length + 1) cap')).heap[x]? = w6.heap[x]? := fun x hx hne => hold x (R.inK x hx) hne (fun e => O.nrt x e.symm hx)
     have R7 := R.tree hs7 hKold O.blk O7.blk hrow hdg
     have hF7 : Aft (Old w) gt w (World.setCell w7 ⟨gt, 3, none⟩ (.slice (some ⟨gg, 0, none⟩) (ts.length + 1) cap')) := ⟨by have := hA.size; omega, fun x hx hne => (hKold x (Classical.byContradiction fun hk => by have := HKw.out x hk; have hx : x < w.heap.size := hx; omega) hne).trans (hA.oth x hx hne), hA.calm.trans hcm7⟩
     have hrow7 : RowF (World.setCell w7 ⟨gt, 3, none⟩ (.slice (some ⟨gg, 0, none⟩) (ts.length + 1) cap')) (fun x => K x ∧ x ≠ g ∧ x ≠ gt) A (tksC T) := hrow.keep hs7 fun x hx _ => ⟨hKold x hx.1 hx.2.2, hx⟩
     have hrow8 : RowF (World.setCell w7 ⟨gt, 3, none⟩ (.slice (some ⟨gg, 0, none⟩) (ts.length + 1) cap')) (fun x => K x ∧ x ≠ g ∧ x ≠ gt) (some ⟨br, o, none⟩) (tksC (T.drop i)) := hrow2.keep hs7 fun x hx _ => ⟨hKold x hx.1 hx.2.2, hx⟩
     rw [← HL2.out] at O7
     have S : RdT K g gt d A c s T w i ks (leavesP s T 0 i (i + (k + 1))) (World.setCell w7 ⟨gt, 3, none⟩ (.slice (some ⟨gg, 0, none⟩) (ts.length + 1) cap')) := ⟨hF7, ⟨_, _, R7⟩, ⟨_, _, _, _, _, _, O7⟩, hrow7⟩
     clear O7 hold hsz7 hcm7 hs7 hKold R7 hF7 hrow7 O hp R hA hrow hrow2 hBx e0 e1 e2 e3 bf hg7 hx7 hown7 hgrow hat hlt7 hgl hbl t3 b0 b1 b2 a0 a1 a2 a3 a4 a5 a6 hbx3
     generalize (World.setCell w7 ⟨gt, 3, none⟩ (.slice (some ⟨gg, 0, none⟩) (ts.length + 1) cap')) = w8 at *
     have c1 : IntKind.i64.wrap ((k : Int) + 1) = (k : Int) + 1 := IntWalk.i64_in _ (by have := Hi.out; have := X.hT; have := Hlt.out; omega)
     go_wp2_with fail
     go_roundg (T.length - i - (k + 1))
     case rel => exact ⟨k + 1, by go_num, by have := Hlt.out; omega, Nat.le_refl _, S, hrow8⟩
     case measure => have := Hlt.out; have := Hm.out; omega
    ·have hke : i + k = T.length := by have := Hi.out; omega
     have j1 : ¬ (k : Int) < ((T.length - i : Nat) : Int) := by omega
     have j2 : decide (k < T.length - i) = false := by simpa using hlt
     rw [hke] at S
     clear hke hlt hrow' hk hm
     go_wp2_with fail
     go_ret
     obtain ⟨Av, cv, vs, At, ct, us, O⟩ := S.O
     refine ⟨⟨ks.length, rfl⟩, S.F, ?_⟩
     rw [Hall.out, ← Hks.out]
     exact O.done HKw.out
end
theorem tkC_one (x : Tk) : ∀ u ∈ tkC x, u.oneCell' = true := by
 intro u hu
 simp [tkC] at hu
 rcases hu with rfl | rfl | rfl <;> rfl
theorem tksC_one (l : List Tk) : ∀ u ∈ tksC l, u.oneCell' = true := by
 intro u hu
 simp only [tksC, List.mem_flatMap] at hu
 obtain ⟨x, _, hx⟩ := hu
 exact tkC_one x u hx
def TkAt (w : World) (A : Option Addr) (l : List Tk) : Prop :=
 (A = none → l = []) ∧ ∀ ad, A = some ad → ∀ j u, (tksC l)[j]? = some u → w.cell? (ad.add j) = some u
theorem TkAt.keep {w w' : World} {A : Option Addr} {l : List Tk} (h : TkAt w A l) (hk : ∀ p : Addr, ∀ u, w.cell? p = some u → w'.cell? p = some u) : TkAt w' A l :=
 ⟨h.1, fun ad ha j u hu => hk _ _ (h.2 ad ha j u hu)⟩
theorem TkAt.below {w w' : World} {A : Option Addr} {l : List Tk} (h : TkAt w A l) (hb : Below w.heap.size w w') : TkAt w' A l :=
 h.keep fun p u hp => by
  have := World.block_lt_of_cell? w p hp
  exact (hb.cell this).trans hp
theorem Rd.tkAt {w : World} {B : Nat} {A : Option Addr} {l : List Tk} (h : Rd w B 3 A l.length (tksC l)) : TkAt w A l := by
 constructor
 ·intro hA
  rcases Nat.eq_zero_or_pos l.length with h0 | h0
  ·exact List.eq_nil_of_length_eq_zero h0
  ·obtain ⟨b, o, e, _⟩ := h.2 h0
   rw [hA] at e; cases e
 ·intro ad hA j u hu
  have hj : j < l.length * 3 := by
   have := (List.getElem?_eq_some_iff.1 hu).1
   rwa [tksC_len] at this
  obtain ⟨b, o, e, _, hc⟩ := h.2 (by omega)
  rw [hA] at e
  injection e with e
  subst e
  have := hc j u hu
  unfold Addr.add
  split
  ·rename_i h0; subst h0; simpa using this
  ·exact this
set_option maxHeartbeats 1000000 in
set_option maxRecDepth 100000 in
theorem tclone_walk (A : Option Addr) (c : Nat) (l : List Tk) (w : World) (h : TkAt w A l) (hc : A = none → c = 0) (hl : l.length ≤ 16777216) :
  Calls Tryz.prog 103 #[.slice A l.length c] w fun e w' => ∃ v, e = .returned v ∧ w'.ownsRow w.heap.size 127 3 v l.length (tksC l) ∧ Below w.heap.size w w' := by
 obtain ⟨i0, ji, jz0, jz1, jz2⟩ := info_parts infoTk
 cases A with
 | none =>
  have h1 := h.1 rfl
  have h2 := hc rfl
  subst h1 h2
  have hnl := fun w : World => Lib.run_eql_slice_nil (P := Tryz.prog) w 124 127 none 0 0 0 0 Tryz.underlying124
  go_enter Tryz.func103, Tryz.ntmps103
  go_wp2
  go_ret
  exact ⟨_, rfl, World.ownsRow_nil _ _ _ _, Below.refl _ _⟩
 | some ad =>
  have h2 := h.2 ad rfl
  have hcl := tksC_len l
  have hO := World.ownsRow_lit (base := w.heap.size) (e := 127) (size := 3) w #[] 0 (Nat.le_refl _) (by unfold maxLen; omega) rfl
  have h3 : ∀ j u, (tksC l)[j]? = some u → (w.alloc (.cells #[] 127)).cell? (ad.add j) = some u := fun j u hu => by
   have h4 := h2 j u hu
   have h5 := World.block_lt_of_cell? w _ h4
   rw [World.cell?_of_block (Below.heap_alloc w _ _ h5)]; exact h4
  have H3 := Lib.hid h3
  have hb : Below w.heap.size w (w.alloc (.cells #[] 127)) := (Below.refl _ _).alloc (Nat.le_refl _) _
  clear h2 h3 h
  have hnl := fun w : World => Lib.run_eql_slice_nil (P := Tryz.prog) w 124 127 (some ad) l.length c 0 0 Tryz.underlying124
  go_enter Tryz.func103, Tryz.ntmps103
  go_wp2_with (at_builtin; refine wpList_append_own _ rfl _ _ 124 rfl w.heap.size 127 i0 _ 3 24 Tryz.underlying124 ji jz0 jz1 jz2 rfl (by omega) _ 0 _ rfl hO ad l.length c (tksC l) rfl hcl H3.out (tksC_one l) (by unfold maxLen; omega) (by omega) (by simp) ?_; intro v' w4 hown4 hgrow _)
  go_ret
  exact ⟨v', rfl, by simpa using hown4, hb.grown hgrow hb.size fun g hg => (hO.lt g hg).1⟩
theorem own_clip {w : World} {base : Nat} {e : TypeId} {n c : Nat} {A : Option Addr} {xs : List Value} (h : w.ownsRow base e 3 (.slice A n c) n xs) : (A = none → n = 0) ∧ Rd w w.heap.size 3 A n xs := by
 refine ⟨fun hA => ?_, Rd.of_own h⟩
 rcases Nat.eq_zero_or_pos n with h0 | h0
 ·exact h0
 ·obtain ⟨b, o, e, _⟩ := (Rd.of_own h).2 h0
  rw [hA] at e; cases e
def DocAt (w : World) (g : Nat) (s : Bs) (T : List Tk) : Prop :=
 ∃ A c, Blk w g 202 #[.string ⟨s.toArray⟩, .slice A T.length c] ∧ (A = none → c = 0) ∧ T.length ≤ c ∧ Rd w w.heap.size 3 A T.length (tksC T)
theorem DocAt.below {w w' : World} {g : Nat} {s : Bs} {T : List Tk} (h : DocAt w g s T) (hb : Below w.heap.size w w') : DocAt w' g s T := by
 obtain ⟨A, c, h1, h2, h3, h4⟩ := h
 exact ⟨A, c, h1.below hb h1.lt, h2, h3, (h4.below hb).more hb.size⟩
set_option maxHeartbeats 1000000 in
set_option maxRecDepth 100000 in
theorem ltokens_walk (g : Nat) (s : Bs) (T : List Tk) (w : World) (h : DocAt w g s T) (hl : T.length ≤ 16777216) :
  Calls Tryz.prog 52 #[.pointer (some ⟨g, 0, none⟩)] w fun e w' => ∃ A, e = .returned (.slice A T.length T.length) ∧ (∃ c, w'.ownsRow w.heap.size 127 3 (.slice A T.length c) T.length (tksC T)) ∧ Below w.heap.size w w' := by
 obtain ⟨A, c, h1, h2, h3, h4⟩ := h
 have c1 := h1.cell 1
 simp at c1
 have hcl := tclone_walk A c T w h4.tkAt h2 hl
 go_enter Tryz.func52, Tryz.ntmps52
 go_wp2_with fail
 refine hcl.mono ?_
 rintro e w1 ⟨v, rfl, hown, hb1⟩
 obtain ⟨Av, cv, rfl, hle, hvn⟩ := own_cap hown
 go_wp2_with fail
 refine (tclip_walk Av T.length cv _ hle hvn).mono ?_
 rintro e w' ⟨rfl, rfl⟩
 go_wp2_with fail
 go_ret
 exact ⟨Av, rfl, ⟨cv, hown⟩, hb1⟩
set_option maxHeartbeats 1000000 in
set_option maxRecDepth 100000 in
theorem lnew_walk (s : Bs) (m : Int) (w : World) (hM : MaxL w m) (hT : T8 w) (hW : WordsIs w) (hl : s.length ≤ 8388608) :
  Calls Tryz.prog 51 #[.string ⟨s.toArray⟩] w fun e w' => ∃ g, e = .returned (.pointer (some ⟨g, 0, none⟩)) ∧ w.heap.size ≤ g ∧ DocAt w' g s (Lx.tokR 0 s) ∧ Below w.heap.size w w' := by
 have hk := tokens_walkO s m w hM hT hW hl
 generalize Lx.tokR 0 s = T at *
 go_enter Tryz.func51, Tryz.ntmps51
 go_wp2_with fail
 refine hk.mono ?_
 clear hk
 rintro e w1 ⟨A, rfl, ⟨cv, hown⟩, hb1⟩
 obtain ⟨hc, hrd⟩ := own_clip hown
 go_wp2_with fail
 go_ret
 have hbA : Below w.heap.size w (w1.alloc (.cells #[.string ⟨s.toArray⟩, .slice A T.length T.length] 202)) := hb1.alloc hb1.size _
 exact ⟨_, rfl, hb1.size, ⟨A, T.length, Blk.new _ _ _, hc, Nat.le_refl _, (hrd.below ((Below.refl _ _).alloc (Nat.le_refl _) _)).more (by simp)⟩, hbA⟩
def nodeC (k tok : Nat) (t : Bs) (v : Value) : Array Value := #[.int .i64 (k : Int), .int .i64 (tok : Int), .string ⟨t.toArray⟩, v, .int .i64 0, .int .i64 0, .int .i64 0, .int .i64 0, .bool false]
mutual
def RnF (w : World) (F : Nat → Prop) : Tr.PT → List Nat → Value → Prop
 | .leaf k t _, fp, v => ∃ g, v = .pointer (some ⟨g, 0, none⟩) ∧ fp = [g] ∧ F g ∧ Blk w g 93 (nodeC 0 k t (.slice none 0 0))
 | .gap t _ _, fp, v => ∃ g, v = .pointer (some ⟨g, 0, none⟩) ∧ fp = [g] ∧ F g ∧ Blk w g 93 (nodeC 1 0 t (.slice none 0 0))
 | .branch k _ l, fp, v => ∃ g fps, v = .pointer (some ⟨g, 0, none⟩) ∧ fp = g :: fps ∧ F g ∧ ∃ A c vs, Blk w g 93 (nodeC k 0 [] (.slice A l.length c)) ∧ l.length ≤ c ∧ RowF w F A vs ∧ RnsF w F l fps vs
def RnsF (w : World) (F : Nat → Prop) : List Tr.PT → List Nat → List Value → Prop
 | [], fps, vs => fps = [] ∧ vs = []
 | p :: l, fps, vs => ∃ fp fps' v vs', fps = fp ++ fps' ∧ vs = v :: vs' ∧ RnF w F p fp v ∧ RnsF w F l fps' vs'
end
section
variable {w w' : World} {F F' : Nat → Prop}
mutual
theorem RnF.keep (hs : w.heap.size ≤ w'.heap.size) (hk : ∀ b, F b → b < w.heap.size → w'.heap[b]? = w.heap[b]? ∧ F' b) : ∀ (p : Tr.PT) (fp : List Nat) (v : Value), RnF w F p fp v → RnF w' F' p fp v
 | .leaf k t a, fp, v, h => by
  obtain ⟨g, e, ef, hF, hB⟩ := h
  have := hk g hF hB.lt
  exact ⟨g, e, ef, this.2, this.1.trans hB⟩
 | .gap t a d, fp, v, h => by
  obtain ⟨g, e, ef, hF, hB⟩ := h
  have := hk g hF hB.lt
  exact ⟨g, e, ef, this.2, this.1.trans hB⟩
 | .branch k a l, fp, v, h => by
  obtain ⟨g, fps, e, ef, hF, A, c, vs, hB, hc, hr, hp⟩ := h
  have := hk g hF hB.lt
  exact ⟨g, fps, e, ef, this.2, A, c, vs, this.1.trans hB, hc, hr.keep hs hk, RnsF.keep hs hk l fps vs hp⟩
theorem RnsF.keep (hs : w.heap.size ≤ w'.heap.size) (hk : ∀ b, F b → b < w.heap.size → w'.heap[b]? = w.heap[b]? ∧ F' b) : ∀ (l : List Tr.PT) (fps : List Nat) (vs : List Value), RnsF w F l fps vs → RnsF w' F' l fps vs
 | [], fps, vs, h => h
 | p :: l, fps, vs, h => by
  obtain ⟨fp, fps', v, vs', ef, e, hp, hl⟩ := h
  exact ⟨fp, fps', v, vs', ef, e, RnF.keep hs hk p fp v hp, RnsF.keep hs hk l fps' vs' hl⟩
end
mutual
theorem RnF.fp : ∀ (p : Tr.PT) (fp : List Nat) (v : Value), RnF w F p fp v → ∀ x ∈ fp, F x ∧ x < w.heap.size
 | .leaf k t a, fp, v, h => by
  obtain ⟨g, e, rfl, hF, hB⟩ := h
  intro x hx
  simp only [List.mem_singleton] at hx
  subst hx; exact ⟨hF, hB.lt⟩
 | .gap t a d, fp, v, h => by
  obtain ⟨g, e, rfl, hF, hB⟩ := h
  intro x hx
  simp only [List.mem_singleton] at hx
  subst hx; exact ⟨hF, hB.lt⟩
 | .branch k a l, fp, v, h => by
  obtain ⟨g, fps, e, rfl, hF, A, c, vs, hB, hc, hr, hp⟩ := h
  intro x hx
  rcases List.mem_cons.1 hx with rfl | hx
  ·exact ⟨hF, hB.lt⟩
  ·exact RnsF.fp l fps vs hp x hx
theorem RnsF.fp : ∀ (l : List Tr.PT) (fps : List Nat) (vs : List Value), RnsF w F l fps vs → ∀ x ∈ fps, F x ∧ x < w.heap.size
 | [], fps, vs, h => by
  obtain ⟨rfl, _⟩ := h
  intro x hx; simp at hx
 | p :: l, fps, vs, h => by
  obtain ⟨fp, fps', v, vs', rfl, e, hp, hl⟩ := h
  intro x hx
  rcases List.mem_append.1 hx with hx | hx
  ·exact RnF.fp p fp v hp x hx
  ·exact RnsF.fp l fps' vs' hl x hx
end
theorem RnF.form : ∀ {p : Tr.PT} {fp : List Nat} {v : Value}, RnF w F p fp v → ∃ q, v = .pointer (some ⟨q, 0, none⟩)
 | .leaf _ _ _, _, _, h => by obtain ⟨g, e, _⟩ := h; exact ⟨g, e⟩
 | .gap _ _ _, _, _, h => by obtain ⟨g, e, _⟩ := h; exact ⟨g, e⟩
 | .branch _ _ _, _, _, h => by obtain ⟨g, _, e, _⟩ := h; exact ⟨g, e⟩
theorem RnsF.len : ∀ {l : List Tr.PT} {fps : List Nat} {vs : List Value}, RnsF w F l fps vs → vs.length = l.length
 | [], fps, vs, h => by obtain ⟨_, rfl⟩ := h; rfl
 | p :: l, fps, vs, h => by
  obtain ⟨fp, fps', v, vs', _, rfl, hp, hl⟩ := h
  rw [List.length_cons, List.length_cons, RnsF.len hl]
theorem RnsF.app : ∀ {l m : List Tr.PT} {fps fqs : List Nat} {vs us : List Value}, RnsF w F l fps vs → RnsF w F m fqs us → RnsF w F (l ++ m) (fps ++ fqs) (vs ++ us)
 | [], m, fps, fqs, vs, us, h, hm => by obtain ⟨rfl, rfl⟩ := h; exact hm
 | p :: l, m, fps, fqs, vs, us, h, hm => by
  obtain ⟨fp, fps', v, vs', rfl, rfl, hp, hl⟩ := h
  exact ⟨fp, fps' ++ fqs, v, vs' ++ us, by rw [List.append_assoc], rfl, hp, RnsF.app hl hm⟩
theorem RnsF.one {p : Tr.PT} {fp : List Nat} {v : Value} (h : RnF w F p fp v) : RnsF w F [p] fp [v] := ⟨fp, [], v, [], by simp, rfl, h, rfl, rfl⟩
end
structure OBn (w : World) (K : Nat → Prop) (h kind : Nat) (pts : List Tr.PT) (fps : List Nat) (A : Option Addr) (c : Nat) (vs : List Value) : Prop where
 nk : ¬ K h
 blk : Blk w h 93 (nodeC kind 0 [] (.slice A pts.length c))
 own : w.ownsRow 0 89 1 (.slice A pts.length c) pts.length vs
 nr : ∀ q, (Value.slice A pts.length c).ownBlock = some q → ¬ K q
 parts : RnsF w (fun x => ¬ K x ∧ x ≠ h ∧ some x ≠ (Value.slice A pts.length c).ownBlock) pts fps vs
 nd : fps.Nodup
def Bn (w : World) (K : Nat → Prop) (h kind : Nat) (pts : List Tr.PT) : Prop := ∃ fps A c vs, OBn w K h kind pts fps A c vs
def Rn (w : World) (F : Nat → Prop) (p : Tr.PT) (v : Value) : Prop := ∃ fp, RnF w F p fp v ∧ fp.Nodup
theorem Rn.keep {w w' : World} {F F' : Nat → Prop} {p : Tr.PT} {v : Value} (h : Rn w F p v) (hs : w.heap.size ≤ w'.heap.size) (hk : ∀ b, F b → b < w.heap.size → w'.heap[b]? = w.heap[b]? ∧ F' b) : Rn w' F' p v := by
 obtain ⟨fp, h, hn⟩ := h
 exact ⟨fp, RnF.keep hs hk _ _ _ h, hn⟩
theorem Rn.form {w : World} {F : Nat → Prop} {p : Tr.PT} {v : Value} (h : Rn w F p v) : ∃ q, v = .pointer (some ⟨q, 0, none⟩) := by
 obtain ⟨fp, h, _⟩ := h
 exact h.form
section
variable {w w' : World} {K K' : Nat → Prop} {g h kind : Nat} {pts : List Tr.PT} {fps : List Nat} {A : Option Addr} {c : Nat} {vs : List Value}
theorem OBn.row_lt (hb : OBn w K h kind pts fps A c vs) : ∀ q, (Value.slice A pts.length c).ownBlock = some q → q < w.heap.size := fun q hq => (hb.own.lt q hq).2
theorem OBn.row_ne (hb : OBn w K h kind pts fps A c vs) : some h ≠ (Value.slice A pts.length c).ownBlock := own_ne hb.own hb.blk (by decide)
theorem OBn.aft (hb : OBn w K h kind pts fps A c vs) (ha : Aft K' g w w') (hg : K g) (hK : ∀ x, x < w.heap.size → K' x) : OBn w' K h kind pts fps A c vs := by
 have hne : ∀ x, ¬ K x → x ≠ g := fun x hx e => hx (e ▸ hg)
 exact ⟨hb.nk, hb.blk.aft ha (hK _ hb.blk.lt) (hne _ hb.nk), own_of_block hb.own fun q hq => ha.oth q (hK _ (hb.row_lt q hq)) (hne _ (hb.nr q hq)), hb.nr,
  RnsF.keep ha.size (fun b hF hl => ⟨ha.oth b (hK b hl) (hne _ hF.1), hF⟩) _ _ _ hb.parts, hb.nd⟩
theorem Bn.aft (hb : Bn w K h kind pts) (ha : Aft (Old w) g w w') (hg : K g) : Bn w' K h kind pts := by
 obtain ⟨fps, A, c, vs, hb⟩ := hb
 exact ⟨fps, A, c, vs, hb.aft ha hg fun x hx => hx⟩
theorem OBn.below (hb : OBn w K h kind pts fps A c vs) (hbl : Below w.heap.size w w') : OBn w' K h kind pts fps A c vs :=
 ⟨hb.nk, hb.blk.below hbl hb.blk.lt, own_of_block hb.own fun q hq => hbl.block q (hb.row_lt q hq), hb.nr, RnsF.keep hbl.size (fun b hF hl => ⟨hbl.block b hl, hF⟩) _ _ _ hb.parts, hb.nd⟩
theorem Bn.below (hb : Bn w K h kind pts) (hbl : Below w.heap.size w w') : Bn w' K h kind pts := by
 obtain ⟨fps, A, c, vs, hb⟩ := hb
 exact ⟨fps, A, c, vs, hb.below hbl⟩
theorem Bn.lt (hb : Bn w K h kind pts) : h < w.heap.size := by
 obtain ⟨fps, A, c, vs, hb⟩ := hb
 exact hb.blk.lt
theorem Bn.nk (hb : Bn w K h kind pts) : ¬ K h := by
 obtain ⟨fps, A, c, vs, hb⟩ := hb
 exact hb.nk
theorem Bn.part (hb : Bn w K h kind pts) (at_ : Nat) : Rn w (fun x => ¬ K x) (.branch kind at_ pts) (.pointer (some ⟨h, 0, none⟩)) := by
 obtain ⟨fps, A, c, vs, hb⟩ := hb
 refine ⟨h :: fps, ⟨h, fps, rfl, rfl, hb.nk, A, c, vs, hb.blk, ?_, ?_, ?_⟩, List.nodup_cons.2 ⟨fun hx => ((RnsF.fp _ _ _ hb.parts _ hx).1).2.1 rfl, hb.nd⟩⟩
 ·rcases hb.own.2 with ⟨e, e2⟩ | ⟨q, cap, cur, e, _, _, hle, _⟩
  ·injection e; omega
  ·injection e with _ _ e3; omega
 ·intro hn
  rcases hb.own.2 with ⟨e, e2⟩ | ⟨q, cap, cur, e, _, hq, hle, _, hz, hx⟩
  ·have := hb.own.1; omega
  ·injection e with e1 e2 e3
   subst e1
   refine ⟨q, 0, rfl, hb.nr q rfl, lt_heap hq, fun j u hu => ?_⟩
   rw [Nat.zero_add]
   have h0 := hb.own
   subst e3
   exact own_cell h0 j u hu
 ·exact RnsF.keep (Nat.le_refl _) (fun b hF _ => ⟨rfl, hF.1⟩) _ _ _ hb.parts
theorem Bn.new {w : World} {K : Nat → Prop} (hK : In K w) (kind : Nat) : Bn (w.alloc (.cells (nodeC kind 0 [] (.slice none 0 0)) 93)) K w.heap.size kind [] :=
 ⟨[], none, 0, [], ⟨fun h => Nat.lt_irrefl _ (hK _ h), Blk.new _ _ _, World.ownsRow_nil _ _ _ _, fun q hq => by simp [Value.ownBlock] at hq, ⟨rfl, rfl⟩, List.nodup_nil⟩⟩
theorem OBn.push {w5 : World} (hb : OBn w K h kind pts fps A c vs) (hK : In K w) {p : Tr.PT} {v : Value} {fp : List Nat} {gg cap : Nat}
  (hp : RnF w (fun x => ¬ K x ∧ x ≠ h ∧ some x ≠ (Value.slice A pts.length c).ownBlock) p fp v) (hn : fp.Nodup) (hd : ∀ x ∈ fp, x ∉ fps)
  (hown : w5.ownsRow 0 89 1 (.slice (some ⟨gg, 0, none⟩) (pts.length + 1) cap) (pts.length + 1) (vs ++ [v]))
  (hgrow : (w.alloc (.cells #[v] 89)).grownBy w5 (Value.slice A pts.length c).ownBlock)
  (hat : (Value.slice A pts.length c).ownBlock = some gg ∨ gg = w.heap.size + 1) :
  Bn (w5.setCell ⟨h, 3, none⟩ (.slice (some ⟨gg, 0, none⟩) (pts.length + 1) cap)) K h kind (pts ++ [p]) ∧ Kept K w (w5.setCell ⟨h, 3, none⟩ (.slice (some ⟨gg, 0, none⟩) (pts.length + 1) cap)) := by
 have hz := hgrow.size
 simp at hz
 have old : ∀ x, x < w.heap.size → some x ≠ (Value.slice A pts.length c).ownBlock → x ≠ h → (w5.setCell ⟨h, 3, none⟩ (.slice (some ⟨gg, 0, none⟩) (pts.length + 1) cap)).heap[x]? = w.heap[x]? := fun x hx hr hh =>
  ((Below.heap_setCell w5 ⟨h, 3, none⟩ _ x hh).trans (hgrow.block x (by simp; omega) hr)).trans (Below.heap_alloc w _ x hx)
 have hrn : ∀ x, K x → some x ≠ (Value.slice A pts.length c).ownBlock := fun x hx e => hb.nr x e.symm hx
 have hhn : ∀ x, K x → x ≠ h := fun x hx e => hb.nk (e ▸ hx)
 have hgk : ¬ K gg := fun hk => by
  rcases hat with e | e
  ·exact hb.nr gg e hk
  ·have := hK gg hk; omega
 have hgn : ∀ x, x < w.heap.size → some x ≠ (Value.slice A pts.length c).ownBlock → some x ≠ some gg := fun x hx hr e => by
  rcases hat with e' | e'
  ·exact hr (e.trans e'.symm)
  ·injection e; omega
 have hhr : (h : Nat) ≠ gg := fun e => hgn h hb.blk.lt hb.row_ne (by rw [e])
 have hlen : (pts ++ [p]).length = pts.length + 1 := by simp
 have hB5 := ((hb.blk.alloc (.cells #[v] 89)).grown hgrow hb.row_ne).set_ 3 (.slice (some ⟨gg, 0, none⟩) (pts.length + 1) cap)
 have hsz : w5.heap.size ≤ (w5.setCell ⟨h, 3, none⟩ (.slice (some ⟨gg, 0, none⟩) (pts.length + 1) cap)).heap.size := by simp [World.setCell]
 refine ⟨⟨fps ++ fp, some ⟨gg, 0, none⟩, cap, vs ++ [v], hb.nk, ?_, ?_, ?_, ?_, ?_⟩, by omega, fun x hx => old x (hK x hx) (hrn x hx) (hhn x hx), ((show Calm w (w.alloc (.cells #[v] 89)) from ⟨rfl, rfl, rfl⟩).trans ⟨hgrow.os, hgrow.tape, hgrow.output⟩).trans (Calm.set w5 _ _)⟩
 ·rw [hlen]; exact hB5
 ·rw [hlen]
  exact own_of_block hown fun q hq => Below.heap_setCell w5 ⟨h, 3, none⟩ _ q (by simp only [Value.ownBlock, Option.some.injEq] at hq; subst hq; exact Ne.symm hhr)
 ·intro q hq
  simp only [Value.ownBlock, Option.some.injEq] at hq
  subst hq; exact hgk
 ·refine RnsF.app ?_ (RnsF.one ?_)
  ·exact RnsF.keep (by omega) (fun x hF hl => ⟨old x hl hF.2.2 hF.2.1, hF.1, hF.2.1, hgn x hl hF.2.2⟩) _ _ _ hb.parts
  ·exact RnF.keep (by omega) (fun x hF hl => ⟨old x hl hF.2.2 hF.2.1, hF.1, hF.2.1, hgn x hl hF.2.2⟩) _ _ _ hp
 ·exact List.nodup_append.2 ⟨hb.nd, hn, fun a ha b hb' e => hd b hb' (e ▸ ha)⟩
end
structure Rdq (w : World) (K : Nat → Prop) (g : Nat) (s : Bs) (T : List Tk) (A : Option Addr) (c n i : Nat) (cut : Bool) : Prop where
 rd : Blk w g 163 #[.string ⟨s.toArray⟩, .slice A T.length c, .int .i64 (i : Int), .int .i64 (n : Int), .bool cut]
 row : RowF w (fun x => K x ∧ x ≠ g) A (tksC T)
 kg : K g
 inK : In K w
 hi : i ≤ T.length
section
variable {w w' : World} {K K' : Nat → Prop} {g : Nat} {s : Bs} {T : List Tk} {A : Option Addr} {c n i n' i' : Nat} {cut cut' : Bool}
theorem Rdq.kept (h : Rdq w K g s T A c n i cut) (hk : Kept K w w') : Rdq w' K g s T A c n i cut :=
 ⟨(hk.same g h.kg).trans h.rd, h.row.keep hk.size fun b hb _ => ⟨hk.same b hb.1, hb⟩, h.kg, h.inK.after hk.size, h.hi⟩
theorem Rdq.below (h : Rdq w K g s T A c n i cut) (hb : Below w.heap.size w w') : Rdq w' K g s T A c n i cut := h.kept (Kept.below hb h.inK)
theorem Rdq.lt (h : Rdq w K g s T A c n i cut) : g < w.heap.size := h.inK _ h.kg
theorem Rdq.old (h : Rdq w K g s T A c n i cut) : Rdq w (Old w) g s T A c n i cut := ⟨h.rd, h.row.keep (Nat.le_refl _) fun _ hb hl => ⟨rfl, hl, hb.2⟩, h.rd.lt, Old.in_ w, h.hi⟩
theorem Rdq.from_old (R : Rdq w K g s T A c n i cut) (R' : Rdq w' K' g s T A c n' i' cut') (ha : Aft K g w w') : Rdq w' K g s T A c n' i' cut' :=
 ⟨R'.rd, R.row.keep ha.size fun b hb _ => ⟨ha.oth b hb.1 hb.2, hb⟩, R.kg, R.inK.after ha.size, R'.hi⟩
theorem Rdq.at_ (h : Rdq w K g s T A c n i cut) {j : Nat} (hj : j ≤ T.length) : Rdq (w.setCell ⟨g, 2, none⟩ (.int .i64 (j : Int))) K g s T A c n j cut := by
 have h1 := h.rd.set_ 2 (.int .i64 (j : Int))
 have ha := (Aft.refl K g w).set 2 (.int .i64 (j : Int))
 exact ⟨h1, h.row.keep ha.size fun b hb _ => ⟨ha.oth b hb.1 hb.2, hb⟩, h.kg, h.inK.after ha.size, hj⟩
theorem Rdq.deep (h : Rdq w K g s T A c n i cut) (m : Nat) : Rdq (w.setCell ⟨g, 3, none⟩ (.int .i64 (m : Int))) K g s T A c m i cut := by
 have h1 := h.rd.set_ 3 (.int .i64 (m : Int))
 have ha := (Aft.refl K g w).set 3 (.int .i64 (m : Int))
 exact ⟨h1, h.row.keep ha.size fun b hb _ => ⟨ha.oth b hb.1 hb.2, hb⟩, h.kg, h.inK.after ha.size, h.hi⟩
theorem Rdq.cells (h : Rdq w K g s T A c n i cut) : w.cell? ⟨g, 0, none⟩ = some (.string ⟨s.toArray⟩) ∧ w.cell? ⟨g, 1, none⟩ = some (.slice A T.length c) ∧ w.cell? ⟨g, 2, none⟩ = some (.int .i64 (i : Int)) ∧ w.cell? ⟨g, 3, none⟩ = some (.int .i64 (n : Int)) ∧ w.cell? ⟨g, 4, none⟩ = some (.bool cut) := by
 have c0 := h.rd.cell 0
 have c1 := h.rd.cell 1
 have c2 := h.rd.cell 2
 have c3 := h.rd.cell 3
 have c4 := h.rd.cell 4
 simp at c0 c1 c2 c3 c4
 exact ⟨c0, c1, c2, c3, c4⟩
end
def genC (k tok : Nat) (t : Bs) (A : Option Addr) (m c : Nat) (a e f u : Int) (b : Bool) : Array Value := #[.int .i64 (k : Int), .int .i64 (tok : Int), .string ⟨t.toArray⟩, .slice A m c, .int .i64 a, .int .i64 e, .int .i64 f, .int .i64 u, .bool b]
def putC (k tok : Nat) (t : Bs) (A : Option Addr) (m c : Nat) (a : Nat) (q : Tr.Pl) : Array Value := genC k tok t A m c a q.end_ q.from_ q.to_ q.lacks
def NodeB (w : World) (g : Nat) : Prop := ∃ k tok t A m c a e f u b, Blk w g 93 (genC k tok t A m c a e f u b)
structure Turn (X : List Nat) (w w' : World) : Prop where
 size : w'.heap.size = w.heap.size
 oth : ∀ x, x ∉ X → w'.heap[x]? = w.heap[x]?
 nodes : ∀ x ∈ X, NodeB w x
 calm : Calm w w'
theorem RowF.at_ {w : World} {F : Nat → Prop} {A : Option Addr} {vs : List Value} {i : Nat} {u : Value} (h : RowF w F A vs) (hu : vs[i]? = some u) : ∃ b o, A = some ⟨b, o, none⟩ ∧ w.cell? ⟨b, o + i, none⟩ = some u := by
 obtain ⟨b, o, e, _, _, hc⟩ := h (by have := (List.getElem?_eq_some_iff.1 hu).1; omega)
 exact ⟨b, o, e, hc i u hu⟩
section
variable {w w' w1 : World} {X : List Nat} {F : Nat → Prop} {A : Option Addr}
theorem Turn.trans (h : Turn X w w1) (h' : Turn X w1 w') : Turn X w w' := ⟨h'.size.trans h.size, fun x hx => (h'.oth x hx).trans (h.oth x hx), h.nodes, h.calm.trans h'.calm⟩
theorem Turn.mono {Y : List Nat} (h : Turn X w w') (hX : ∀ x ∈ X, x ∈ Y) (hY : ∀ y ∈ Y, NodeB w y) : Turn Y w w' := ⟨h.size, fun x hx => h.oth x fun hm => hx (hX x hm), hY, h.calm⟩
mutual
theorem RnF.nodes : ∀ (p : Tr.PT) (fp : List Nat) (v : Value), RnF w F p fp v → ∀ x ∈ fp, NodeB w x
 | .leaf k t a, fp, v, h, x, hx => by
  obtain ⟨g, e, rfl, hF, hB⟩ := h
  simp only [List.mem_singleton] at hx
  subst hx; exact ⟨_, _, _, _, _, _, _, _, _, _, _, hB⟩
 | .gap t a d, fp, v, h, x, hx => by
  obtain ⟨g, e, rfl, hF, hB⟩ := h
  simp only [List.mem_singleton] at hx
  subst hx; exact ⟨_, _, _, _, _, _, _, _, _, _, _, hB⟩
 | .branch k a l, fp, v, h, x, hx => by
  obtain ⟨g, fps, e, rfl, hF, A, c, vs, hB, hc, hr, hp⟩ := h
  rcases List.mem_cons.1 hx with rfl | hx
  ·exact ⟨_, _, _, _, _, _, _, _, _, _, _, hB⟩
  ·exact RnsF.nodes l fps vs hp x hx
theorem RnsF.nodes : ∀ (l : List Tr.PT) (fps : List Nat) (vs : List Value), RnsF w F l fps vs → ∀ x ∈ fps, NodeB w x
 | [], fps, vs, h, x, hx => by obtain ⟨rfl, _⟩ := h; simp at hx
 | p :: l, fps, vs, h, x, hx => by
  obtain ⟨fp, fps', v, vs', rfl, e, hp, hl⟩ := h
  rcases List.mem_append.1 hx with hx | hx
  ·exact RnF.nodes p fp v hp x hx
  ·exact RnsF.nodes l fps' vs' hl x hx
end
end
mutual
def NpF (w : World) (F : Nat → Prop) : Tr.PT → Nat → List Nat → Value → Prop
 | .leaf k t x, a, fp, v => ∃ g, v = .pointer (some ⟨g, 0, none⟩) ∧ fp = [g] ∧ F g ∧ Blk w g 93 (putC 0 k t none 0 0 a (Tr.putP (.leaf k t x) a))
 | .gap t x d, a, fp, v => ∃ g, v = .pointer (some ⟨g, 0, none⟩) ∧ fp = [g] ∧ F g ∧ Blk w g 93 (putC 1 0 t none 0 0 a (Tr.putP (.gap t x d) a))
 | .branch k x l, a, fp, v => ∃ g fps, v = .pointer (some ⟨g, 0, none⟩) ∧ fp = g :: fps ∧ F g ∧ ∃ A c vs, Blk w g 93 (putC k 0 [] A l.length c a (Tr.putP (.branch k x l) a)) ∧ l.length ≤ c ∧ RowF w F A vs ∧ NpsF w F l a fps vs
def NpsF (w : World) (F : Nat → Prop) : List Tr.PT → Nat → List Nat → List Value → Prop
 | [], _, fps, vs => fps = [] ∧ vs = []
 | p :: l, a, fps, vs => ∃ fp fps' v vs', fps = fp ++ fps' ∧ vs = v :: vs' ∧ NpF w F p a fp v ∧ NpsF w F l (Tr.putP p a).end_ fps' vs'
end
section
variable {w w' w1 : World} {X : List Nat} {F : Nat → Prop}
theorem NpF.form : ∀ {p : Tr.PT} {a : Nat} {fp : List Nat} {v : Value}, NpF w F p a fp v → ∃ q, v = .pointer (some ⟨q, 0, none⟩)
 | .leaf _ _ _, _, _, _, h => by obtain ⟨g, e, _⟩ := h; exact ⟨g, e⟩
 | .gap _ _ _, _, _, _, h => by obtain ⟨g, e, _⟩ := h; exact ⟨g, e⟩
 | .branch _ _ _, _, _, _, h => by obtain ⟨g, _, e, _⟩ := h; exact ⟨g, e⟩
theorem NpsF.len : ∀ {l : List Tr.PT} {a : Nat} {fps : List Nat} {vs : List Value}, NpsF w F l a fps vs → vs.length = l.length
 | [], _, _, _, h => by obtain ⟨_, rfl⟩ := h; rfl
 | p :: l, _, _, _, h => by
  obtain ⟨fp, fps', v, vs', _, rfl, _, hl⟩ := h
  rw [List.length_cons, List.length_cons, NpsF.len hl]
theorem NpsF.snoc : ∀ {l : List Tr.PT} {s : Tr.Pl} {fps fp : List Nat} {vs : List Value} {p : Tr.PT} {v : Value}, NpsF w F l s.end_ fps vs → NpF w F p (Tr.putsP l s).end_ fp v → NpsF w F (l ++ [p]) s.end_ (fps ++ fp) (vs ++ [v])
 | [], s, fps, fp, vs, p, v, h, hp => by
  obtain ⟨rfl, rfl⟩ := h
  exact ⟨fp, [], v, [], by simp, rfl, by simpa only [Tr.putsP] using hp, rfl, rfl⟩
 | q :: l, s, fps, fp, vs, p, v, h, hp => by
  obtain ⟨fq, fps', u, us', rfl, rfl, hq, hl⟩ := h
  refine ⟨fq, fps' ++ fp, u, us' ++ [v], by rw [List.append_assoc], rfl, hq, ?_⟩
  have hj : (Tr.joinP s (Tr.putP q s.end_)).end_ = (Tr.putP q s.end_).end_ := rfl
  rw [← hj] at hl ⊢
  exact NpsF.snoc hl (by simpa only [Tr.putsP] using hp)
end
theorem NpF.head {w : World} {F : Nat → Prop} : ∀ {p : Tr.PT} {a : Nat} {fp : List Nat} {v : Value}, NpF w F p a fp v → ∃ q k tok t A m c, v = .pointer (some ⟨q, 0, none⟩) ∧ q ∈ fp ∧ Blk w q 93 (putC k tok t A m c a (Tr.putP p a))
 | .leaf _ _ _, _, _, _, h => by obtain ⟨g, e, rfl, _, hB⟩ := h; exact ⟨g, _, _, _, _, _, _, e, by simp, hB⟩
 | .gap _ _ _, _, _, _, h => by obtain ⟨g, e, rfl, _, hB⟩ := h; exact ⟨g, _, _, _, _, _, _, e, by simp, hB⟩
 | .branch _ _ _, _, _, _, h => by obtain ⟨g, _, e, rfl, _, A, c, vs, hB, _⟩ := h; exact ⟨g, _, _, _, _, _, _, e, by simp, hB⟩
mutual
def NdF (w : World) (F : Nat → Prop) : Tr.PT → List Value → Prop
 | .leaf k t _, v => v = [.int .i64 0, .int .i64 (k : Int), .string ⟨t.toArray⟩, .slice none 0 0]
 | .gap t _ _, v => v = [.int .i64 1, .int .i64 0, .string ⟨t.toArray⟩, .slice none 0 0]
 | .branch k _ l, v => ∃ A vs, v = [.int .i64 (k : Int), .int .i64 0, .string ⟨#[]⟩, .slice A l.length l.length] ∧ RowF w F A vs ∧ NdsF w F l vs
def NdsF (w : World) (F : Nat → Prop) : List Tr.PT → List Value → Prop
 | [], vs => vs = []
 | p :: l, vs => ∃ v vs', vs = v ++ vs' ∧ NdF w F p v ∧ NdsF w F l vs'
end
section
variable {w w' : World} {F F' : Nat → Prop}
mutual
theorem NdF.keep (hs : w.heap.size ≤ w'.heap.size) (hk : ∀ b, F b → b < w.heap.size → w'.heap[b]? = w.heap[b]? ∧ F' b) : ∀ (p : Tr.PT) (v : List Value), NdF w F p v → NdF w' F' p v
 | .leaf _ _ _, _, h => h
 | .gap _ _ _, _, h => h
 | .branch k _ l, v, h => by
  obtain ⟨A, vs, e, hr, hp⟩ := h
  exact ⟨A, vs, e, hr.keep hs hk, NdsF.keep hs hk l vs hp⟩
theorem NdsF.keep (hs : w.heap.size ≤ w'.heap.size) (hk : ∀ b, F b → b < w.heap.size → w'.heap[b]? = w.heap[b]? ∧ F' b) : ∀ (l : List Tr.PT) (vs : List Value), NdsF w F l vs → NdsF w' F' l vs
 | [], _, h => h
 | p :: l, vs, h => by
  obtain ⟨v, vs', e, hp, hl⟩ := h
  exact ⟨v, vs', e, NdF.keep hs hk p v hp, NdsF.keep hs hk l vs' hl⟩
end
theorem NdF.form : ∀ {p : Tr.PT} {v : List Value}, NdF w F p v → ∃ (a b : Nat) (t : Bs) (A : Option Addr) (n : Nat), v = [.int .i64 (a : Int), .int .i64 (b : Int), .string ⟨t.toArray⟩, .slice A n n]
 | .leaf k t _, v, h => ⟨0, k, t, none, 0, h⟩
 | .gap t _ _, v, h => ⟨1, 0, t, none, 0, h⟩
 | .branch k _ l, v, h => by
  obtain ⟨A, vs, e, _⟩ := h
  exact ⟨k, 0, [], A, l.length, e⟩
theorem NdsF.snoc : ∀ {l : List Tr.PT} {vs v : List Value} {p : Tr.PT}, NdsF w F l vs → NdF w F p v → NdsF w F (l ++ [p]) (vs ++ v)
 | [], vs, v, p, h, hp => by
  have : vs = [] := h
  subst this
  exact ⟨v, [], by simp, hp, rfl⟩
 | q :: l, vs, v, p, h, hp => by
  obtain ⟨u, vs', rfl, hq, hl⟩ := h
  exact ⟨u, vs' ++ v, by rw [List.append_assoc], hq, NdsF.snoc hl hp⟩
end
structure NdMid (w : World) (r n k : Nat) (dn : List Tr.PT) (Av : Option Addr) (cv : Nat) (cells : List Value) (wr : World) : Prop where
 box : Blk wr n 55 #[.int .i64 (k : Int), .int .i64 0, .string ⟨#[]⟩, .slice Av dn.length cv]
 rb : Blk wr r 55 #[.int .i64 0, .int .i64 0, .string ⟨#[]⟩, .slice none 0 0]
 own : wr.ownsRow w.heap.size 55 4 (.slice Av dn.length cv) dn.length cells
 kids : NdsF wr (fun x => w.heap.size ≤ x ∧ x ≠ r ∧ x ≠ n ∧ some x ≠ (Value.slice Av dn.length cv).ownBlock) dn cells
 bel : Below w.heap.size w wr
 nn : some n ≠ (Value.slice Av dn.length cv).ownBlock
 rr : some r ≠ (Value.slice Av dn.length cv).ownBlock
 rn : r ≠ n
 hn : w.heap.size ≤ n
 hr : w.heap.size ≤ r
section
variable {w wr w' w3 w5 : World} {r n k : Nat} {dn : List Tr.PT} {Av : Option Addr} {cv : Nat} {cells : List Value}
theorem NdMid.below (M : NdMid w r n k dn Av cv cells wr) (hd : Below wr.heap.size wr w') : NdMid w r n k dn Av cv cells w' :=
 ⟨M.box.below hd M.box.lt, M.rb.below hd M.rb.lt, own_of_block M.own fun y hy => hd.block y (M.own.lt y hy).2, NdsF.keep hd.size (fun y hF hl => ⟨hd.block y hl, hF⟩) _ _ M.kids, M.bel.trans (hd.mono M.bel.size), M.nn, M.rr, M.rn, M.hn, M.hr⟩
theorem NdMid.push {p : Tr.PT} {na nb : Nat} {nt : Bs} {nA : Option Addr} {nn gg cap : Nat} (M : NdMid w r n k dn Av cv cells wr)
  (hlt : r < w3.heap.size ∧ n < w3.heap.size ∧ ∀ y, (Value.slice Av dn.length cv).ownBlock = some y → y < w3.heap.size)
  (hnd : NdF wr (fun x => w3.heap.size ≤ x) p #[.int .i64 (na : Int), .int .i64 (nb : Int), .string ⟨nt.toArray⟩, .slice nA nn nn].toList)
  (hown : w5.ownsRow w.heap.size 55 4 (.slice (some ⟨gg, 0, none⟩) (dn.length + 1) cap) (dn.length + 1) (cells ++ #[.int .i64 (na : Int), .int .i64 (nb : Int), .string ⟨nt.toArray⟩, .slice nA nn nn].toList))
  (hgrow : (wr.alloc (.cells #[.int .i64 (na : Int), .int .i64 (nb : Int), .string ⟨nt.toArray⟩, .slice nA nn nn] 55)).grownBy w5 (Value.slice Av dn.length cv).ownBlock)
  (hat : (Value.slice Av dn.length cv).ownBlock = some gg ∨ gg = wr.heap.size + 1) :
  NdMid w r n k (dn ++ [p]) (some ⟨gg, 0, none⟩) cap (cells ++ #[.int .i64 (na : Int), .int .i64 (nb : Int), .string ⟨nt.toArray⟩, .slice nA nn nn].toList) (World.setCell w5 ⟨n, 3, none⟩ (.slice (some ⟨gg, 0, none⟩) (dn.length + 1) cap)) := by
 obtain ⟨hr3, hn3, ho3⟩ := hlt
 have hz5 := hgrow.size
 simp at hz5
 have hgn : ∀ y, y < wr.heap.size → some y ≠ (Value.slice Av dn.length cv).ownBlock → some y ≠ some gg := fun y hy hr e => by
  rcases hat with e' | e'
  ·exact hr (e.trans e'.symm)
  ·injection e with e; omega
 have hold : ∀ y, y < wr.heap.size → y ≠ n → some y ≠ (Value.slice Av dn.length cv).ownBlock → (World.setCell w5 ⟨n, 3, none⟩ (.slice (some ⟨gg, 0, none⟩) (dn.length + 1) cap)).heap[y]? = wr.heap[y]? := fun y hy hh hr =>
  ((Below.heap_setCell w5 ⟨n, 3, none⟩ _ y hh).trans (hgrow.block y (by simp; omega) hr)).trans (Below.heap_alloc wr _ y hy)
 have hn5 := (M.box.alloc (.cells #[.int .i64 (na : Int), .int .i64 (nb : Int), .string ⟨nt.toArray⟩, .slice nA nn nn] 55)).grown hgrow M.nn
 have hn6 := hn5.set_ 3 (.slice (some ⟨gg, 0, none⟩) (dn.length + 1) cap)
 have hr6 : Blk (World.setCell w5 ⟨n, 3, none⟩ (.slice (some ⟨gg, 0, none⟩) (dn.length + 1) cap)) r 55 #[.int .i64 0, .int .i64 0, .string ⟨#[]⟩, .slice none 0 0] := (hold r M.rb.lt M.rn M.rr).trans M.rb
 have hgg : n ≠ gg := fun e => hgn n M.box.lt M.nn (by rw [e])
 have hown6 : (World.setCell w5 ⟨n, 3, none⟩ (.slice (some ⟨gg, 0, none⟩) (dn.length + 1) cap)).ownsRow w.heap.size 55 4 (.slice (some ⟨gg, 0, none⟩) (dn.length + 1) cap) (dn.length + 1) (cells ++ #[.int .i64 (na : Int), .int .i64 (nb : Int), .string ⟨nt.toArray⟩, .slice nA nn nn].toList) := own_of_block hown fun y hy => Below.heap_setCell w5 ⟨n, 3, none⟩ _ y (by simp only [Value.ownBlock, Option.some.injEq] at hy; subst hy; exact Ne.symm hgg)
 have hsz6 : wr.heap.size ≤ (World.setCell w5 ⟨n, 3, none⟩ (.slice (some ⟨gg, 0, none⟩) (dn.length + 1) cap)).heap.size := by simp [World.setCell]; omega
 have hlen : (dn ++ [p]).length = dn.length + 1 := by simp
 have hbz := M.bel.size
 have hk6 : NdsF (World.setCell w5 ⟨n, 3, none⟩ (.slice (some ⟨gg, 0, none⟩) (dn.length + 1) cap)) (fun x => w.heap.size ≤ x ∧ x ≠ r ∧ x ≠ n ∧ some x ≠ (Value.slice (some ⟨gg, 0, none⟩) (dn.length + 1) cap).ownBlock) (dn ++ [p]) (cells ++ #[.int .i64 (na : Int), .int .i64 (nb : Int), .string ⟨nt.toArray⟩, .slice nA nn nn].toList) :=
  NdsF.snoc (NdsF.keep hsz6 (fun y hF hl => ⟨hold y hl hF.2.2.1 hF.2.2.2, hF.1, hF.2.1, hF.2.2.1, hgn y hl hF.2.2.2⟩) _ _ M.kids) (NdF.keep hsz6 (fun y hF hl => by
   have hF : w3.heap.size ≤ y := hF
   have h1 : y ≠ n := by omega
   have h2 : some y ≠ (Value.slice Av dn.length cv).ownBlock := fun e => by have := ho3 y e.symm; omega
   exact ⟨hold y hl h1 h2, by have := M.hn; omega, by omega, h1, hgn y hl h2⟩) _ _ hnd)
 have hb6 : Below w.heap.size w (World.setCell w5 ⟨n, 3, none⟩ (.slice (some ⟨gg, 0, none⟩) (dn.length + 1) cap)) := by
  have h1 : Below w.heap.size w (wr.alloc (.cells #[.int .i64 (na : Int), .int .i64 (nb : Int), .string ⟨nt.toArray⟩, .slice nA nn nn] 55)) := M.bel.alloc M.bel.size _
  exact (h1.grown hgrow (by simp; omega) (fun y hy => (M.own.lt y hy).1)).setCell (p := ⟨n, 3, none⟩) M.hn _
 refine ⟨?_, hr6, ?_, ?_, hb6, ?_, ?_, M.rn, M.hn, M.hr⟩
 ·rw [hlen]; exact hn6
 ·rw [hlen]; exact hown6
 ·rw [hlen]; exact hk6
 ·rw [hlen]; exact hgn n M.box.lt M.nn
 ·rw [hlen]; exact hgn r M.rb.lt M.rr
end
theorem as_leaf_leaf (a : Addr) (w : World) : (Instr.typeAssert (.iface 171 (.pointer (some a))) 122 171 true).run Tryz.prog w = .ok (.tuple #[.pointer (some a), .bool true]) w := by kernel_rfl
theorem as_leaf_gap (a : Addr) (w : World) : (Instr.typeAssert (.iface 171 (.pointer (some a))) 122 176 true).run Tryz.prog w = .ok (.tuple #[.pointer none, .bool false]) w := by kernel_rfl
theorem as_leaf_branch (a : Addr) (w : World) : (Instr.typeAssert (.iface 171 (.pointer (some a))) 122 114 true).run Tryz.prog w = .ok (.tuple #[.pointer none, .bool false]) w := by kernel_rfl
theorem as_gap_leaf (a : Addr) (w : World) : (Instr.typeAssert (.iface 176 (.pointer (some a))) 122 171 true).run Tryz.prog w = .ok (.tuple #[.pointer none, .bool false]) w := by kernel_rfl
theorem as_gap_gap (a : Addr) (w : World) : (Instr.typeAssert (.iface 176 (.pointer (some a))) 122 176 true).run Tryz.prog w = .ok (.tuple #[.pointer (some a), .bool true]) w := by kernel_rfl
theorem as_gap_branch (a : Addr) (w : World) : (Instr.typeAssert (.iface 176 (.pointer (some a))) 122 114 true).run Tryz.prog w = .ok (.tuple #[.pointer none, .bool false]) w := by kernel_rfl
theorem as_branch_leaf (a : Addr) (w : World) : (Instr.typeAssert (.iface 114 (.pointer (some a))) 122 171 true).run Tryz.prog w = .ok (.tuple #[.pointer none, .bool false]) w := by kernel_rfl
theorem as_branch_gap (a : Addr) (w : World) : (Instr.typeAssert (.iface 114 (.pointer (some a))) 122 176 true).run Tryz.prog w = .ok (.tuple #[.pointer none, .bool false]) w := by kernel_rfl
theorem as_branch_branch (a : Addr) (w : World) : (Instr.typeAssert (.iface 114 (.pointer (some a))) 122 114 true).run Tryz.prog w = .ok (.tuple #[.pointer (some a), .bool true]) w := by kernel_rfl
theorem wpList_push {P : Program} {ops : Array Oper} {rest : List Oper} {o : Oper} {a : Act} {Q : Exit → Act → World → Prop} (w : World) (hgd : o.guard = none) (s x : Operand) (T : TypeId)
  (ho : o.op = .call { callee := .builtin .append, args := #[s, x], argTypes := #[T, T] }) (B : Nat) (e : TypeId) {i : TypeInfo} {z : Value} (size bytes : Nat)
  (ht : P.underlying T = some (.slice e)) (hi : P.info? e = some i) (hz : i.zero = some z) (hsize : i.size = size) (hby : i.bytes = bytes) (hzs : z.cells.size = size) (hsz : 0 < size)
  {A : Option Addr} {c n : Nat} {vs : List Value} (hs : a.eval s = .slice A n c) (hown : w.ownsRow B e size (.slice A n c) n vs) (news : Array Value)
  (hx : a.eval x = .slice (some ⟨w.heap.size, 0, none⟩) 1 1) (hl : news.size = size) (h1 : ∀ u ∈ news.toList, u.oneCell' = true) (hn : n ≤ 1000000000) (hb : bytes ≤ 1000) (hB : B ≤ w.heap.size)
  (h : ∀ A' c' w', w'.ownsRow B e size (.slice A' (n + 1) c') (n + 1) (vs ++ news.toList) → Below B w w' → w.grownBy w' (Value.slice A n c).ownBlock → wpList P ops Q rest (a.put o.dst (.slice A' (n + 1) c')) w') :
  wpList P ops Q (o :: rest) a (w.alloc (.cells news e)) := by
 refine wpList_append_own (w.alloc (.cells news e)) hgd s x T ho B e i z size bytes ht hi hz hsize hby hzs hsz _ n vs hs (hown.alloc _) ⟨w.heap.size, 0, none⟩ 1 1 news.toList hx (by rw [Array.length_toList, hl, Nat.one_mul])
  (World.news_of_block (cs := news) (t := e) (fr := (0, 0)) (heap_alloc_new w _)) h1 (by unfold maxLen; omega) ?_ (by simp; omega) ?_
 ·have h1 : (n + 1) * bytes ≤ 1000000001 * 1000 := Nat.mul_le_mul (by omega) hb
  omega
 ·intro v' w' hown' hgrow _
  obtain ⟨A', c', rfl⟩ := own_form hown'
  have hd : Below B w (w.alloc (.cells news e)) := (Below.refl _ _).alloc hB _
  exact h A' c' w' hown' (hd.grown hgrow (by simp; omega) fun y hy => (hown.lt y hy).1) ((World.grownBy_alloc w _ _).trans hgrow)
theorem step_push {P : Program} {ops : Array Oper} {o : Oper} {a : Act} {K : Act → World → Prop} {Q : Exit → Act → World → Prop} {E : Prop} (w : World) (hgd : o.guard = none) (s x : Operand) (T : TypeId)
  (ho : o.op = .call { callee := .builtin .append, args := #[s, x], argTypes := #[T, T] }) (B : Nat) (e : TypeId) {i : TypeInfo} {z : Value} (size bytes : Nat)
  (ht : P.underlying T = some (.slice e)) (hi : P.info? e = some i) (hz : i.zero = some z) (hsize : i.size = size) (hby : i.bytes = bytes) (hzs : z.cells.size = size) (hsz : 0 < size)
  {A : Option Addr} {c n : Nat} {vs : List Value} (hs : a.eval s = .slice A n c) (hown : w.ownsRow B e size (.slice A n c) n vs) (news : Array Value)
  (hx : a.eval x = .slice (some ⟨w.heap.size, 0, none⟩) 1 1) (hl : news.size = size) (h1 : ∀ u ∈ news.toList, u.oneCell' = true) (hn : n ≤ 1000000000) (hb : bytes ≤ 1000) (hB : B ≤ w.heap.size)
  (h : ∀ A' c' w', w'.ownsRow B e size (.slice A' (n + 1) c') (n + 1) (vs ++ news.toList) → Below B w w' → w.grownBy w' (Value.slice A n c).ownBlock → K (a.put o.dst (.slice A' (n + 1) c')) w') :
  if Region.wanted o (yielded ops a.tmps) = true then Oper.wp P o a (w.alloc (.cells news e)) K Q else E := by
 have hw : Region.wanted o (yielded ops a.tmps) = true := by simp [Region.wanted, hgd]
 rw [if_pos hw]
 refine wp_append_own (w.alloc (.cells news e)) s x T ho B e i z size bytes ht hi hz hsize hby hzs hsz _ n vs hs (hown.alloc _) ⟨w.heap.size, 0, none⟩ 1 1 news.toList hx (by rw [Array.length_toList, hl, Nat.one_mul])
  (World.news_of_block (cs := news) (t := e) (fr := (0, 0)) (heap_alloc_new w _)) h1 (by unfold maxLen; omega) ?_ (by simp; omega) ?_
 ·have h1 : (n + 1) * bytes ≤ 1000000001 * 1000 := Nat.mul_le_mul (by omega) hb
  omega
 ·intro v' w' hown' hgrow _
  obtain ⟨A', c', rfl⟩ := own_form hown'
  have hd : Below B w (w.alloc (.cells news e)) := (Below.refl _ _).alloc hB _
  exact h A' c' w' hown' (hd.grown hgrow (by simp; omega) fun y hy => (hown.lt y hy).1) ((World.grownBy_alloc w _ _).trans hgrow)
theorem bd_part : (Tryz.prog.info? 122).map (fun i => (i.zero, i.size, i.bytes)) = some (some .nilIface, 1, 16) := by kernel_rfl
theorem bd_leafp : (Tryz.prog.info? 171).map (fun i => (i.zero, i.size, i.bytes)) = some (some (.pointer none), 1, 8) := by kernel_rfl
def PartsE (l : List Tr.PT) (w : World) (F : Nat → Prop) (e : Ending) (w' : World) : Prop :=
 ∃ A c vs, e = .returned (.slice A l.length c) ∧ w'.ownsRow w.heap.size 122 1 (.slice A l.length c) l.length vs ∧ PtsF w' F l vs ∧ Below w.heap.size w w'
theorem PtsF.below {w w' : World} {F : Nat → Prop} {l : List Tr.PT} {vs : List Value} (h : PtsF w F l vs) (hd : Below w.heap.size w w') : PtsF w' F l vs := PtsF.keep hd.size (fun b hF hl => ⟨hd.block b hl, hF⟩) _ _ h
theorem PtF.below {w w' : World} {F : Nat → Prop} {p : Tr.PT} {v : Value} (h : PtF w F p v) (hd : Below w.heap.size w w') : PtF w' F p v := PtF.keep hd.size (fun b hF hl => ⟨hd.block b hl, hF⟩) _ _ h
theorem PtsF.snoc {w : World} {F : Nat → Prop} {l : List Tr.PT} {vs : List Value} {p : Tr.PT} {v : Value} (h : PtsF w F l vs) (hp : PtF w F p v) : PtsF w F (l ++ [p]) (vs ++ [v]) := PtsF.app h (PtsF.one hp)
theorem Sc.sense_take1 (l : List Tr.PT) (i : Nat) (h : i < l.length) : Sc.senseL (l.take (i + 1)) = if Sc.blankL l[i] then Sc.senseL (l.take i) else Sc.senseL (l.take i) ++ [l[i]] := by
 rw [List.take_succ_eq_append_getElem h, Sc.sense_app]
 unfold Sc.senseL
 rw [List.filter_cons, List.filter_nil]
 cases Sc.blankL l[i] <;> simp
set_option maxHeartbeats 8000000 in
set_option maxRecDepth 100000 in
theorem sense_walk {w : World} {F : Nat → Prop} {q k a : Nat} {l : List Tr.PT} (hp : PtF w F (.branch k a l) (.iface 114 (.pointer (some ⟨q, 0, none⟩)))) (hl : l.length ≤ 1000000000) :
  Calls Tryz.prog 94 #[.pointer (some ⟨q, 0, none⟩)] w (PartsE (Sc.senseL l) w F) := by
 obtain ⟨i0, ji, jz0, jz1, jz2⟩ := info_parts bd_part
 obtain ⟨q', e, _, A, c, vs, hB, hc, hrow, hps⟩ := hp
 injection e with _ e
 injection e with e
 injection e with e
 injection e with e
 subst e
 have b1 := hB.cell 1
 simp at b1
 have Hl := Lib.hid hl
 clear hl hc
 go_enter Tryz.func94, Tryz.ntmps94
 go_wp2_with fail
 go_loopg [3, 13] l.length (fun m v u wr => ∃ (i : Nat) (Ao : Option Addr) (co : Nat) (ovs : List Value), v = .slice Ao (Sc.senseL (l.take i)).length co ∧ u = .int .i64 (i : Int) ∧ i ≤ l.length ∧ l.length - i ≤ m ∧ wr.ownsRow w.heap.size 122 1 (.slice Ao (Sc.senseL (l.take i)).length co) (Sc.senseL (l.take i)).length ovs ∧ PtsF w F (Sc.senseL (l.take i)) ovs ∧ Below w.heap.size w wr)
 case atStart => exact ⟨0, none, 0, [], rfl, rfl, Nat.zero_le _, Nat.le_refl _, World.ownsRow_nil _ _ _ _, rfl, Below.refl _ _⟩
 case round =>
  clear b1
  obtain ⟨i, Ao, co, ovs, rfl, rfl, hi, hm, hown, hos, hd⟩ := hrel
  by_cases hlt : i < l.length
  ·have ii0 : (0 : Int) ≤ (i : Int) := by omega
   have ii1 : (i : Int) < (l.length : Int) := by omega
   obtain ⟨v, hv, hpv⟩ := hps.at_ hlt
   obtain ⟨br, o, rfl, hFb, hbl, hcc⟩ := hrow (by have := hps.len; omega)
   have hcell := hcc _ _ hv
   have q0 := (hd.cell (p := ⟨br, o + i, none⟩) hbl).trans hcell
   have HT := Lib.hid (Sc.sense_take1 l i hlt)
   have Hn : Hid ((Sc.senseL (l.take i)).length ≤ 1000000000) := by
    have h1 : (Sc.senseL (l.take i)).length ≤ (l.take i).length := List.length_filter_le _ _
    rw [List.length_take] at h1
    have := Hl.out
    show _ ≤ _
    omega
   have c1 : IntKind.i64.wrap ((i : Int) + 1) = (i : Int) + 1 := IntWalk.i64_in _ (by have := Hl.out; omega)
   generalize l[i] = p at *
   generalize hst : Sc.senseL (l.take i) = st at *
   have Hlt := Lib.hid hlt
   have Hm := Lib.hid hm
   have hsz := hd.size
   have Hsz := Lib.hid hsz
   clear hst hv hcc hcell hbl hlt hm hi hFb hsz
   cases p with
   | leaf k t a =>
    obtain ⟨g, rfl, _, hgB⟩ := hpv
    have k0 := (hgB.below hd hgB.lt).cell 0
    simp at k0
    have has := fun w => as_leaf_leaf ⟨g, 0, none⟩ w
    have hbk := blank_walk k wr
    have hpp : PtF w F (.leaf k t a) (.iface 171 (.pointer (some ⟨g, 0, none⟩))) := ⟨g, rfl, by assumption, hgB⟩
    clear hgB
    have HT : Hid (Sc.senseL (l.take (i + 1)) = if (k == 1 || k == 2) then st else st ++ [.leaf k t a]) := HT
    by_cases hk : (k == 1 || k == 2) = true
    ·rw [if_pos hk] at HT
     go_wp2_with fail
     refine hbk.mono ?_
     clear hbk
     rintro e w1 ⟨rfl, rfl⟩
     rw [hk]
     go_wp2_with fail
     go_roundg (l.length - (i + 1))
     case rel => exact ⟨i + 1, Ao, co, ovs, by rw [HT.out], by go_num, by have := Hlt.out; omega, Nat.le_refl _, by rw [HT.out]; exact hown, by rw [HT.out]; exact hos, hd⟩
     case measure => have := Hlt.out; have := Hm.out; omega
    ·rw [if_neg hk] at HT
     have hk : (k == 1 || k == 2) = false := by simpa using hk
     go_wp2_with fail
     refine hbk.mono ?_
     clear hbk
     rintro e w1 ⟨rfl, rfl⟩
     rw [hk]
     go_wp2_with (at_builtin; refine wpList_push _ rfl _ _ 119 rfl w.heap.size 122 1 16 Tryz.underlying119 ji jz0 jz1 jz2 rfl (by omega) rfl hown #[.iface 171 (.pointer (some ⟨g, 0, none⟩))] rfl rfl (by simp [Value.oneCell']) Hn.out (by omega) Hsz.out ?_; intro A' c' w2 hown2 hd2 _)
     have hos2 := hos.snoc hpp
     go_roundg (l.length - (i + 1))
     case rel => exact ⟨i + 1, A', c', _, by rw [HT.out, List.length_append]; rfl, by go_num, by have := Hlt.out; omega, Nat.le_refl _, by rw [HT.out, List.length_append]; exact hown2, by rw [HT.out]; exact hos2, hd.trans hd2⟩
     case measure => have := Hlt.out; have := Hm.out; omega
   | gap t a d =>
    have hpp := hpv
    obtain ⟨g, rfl, _, hgB⟩ := hpv
    have has := fun w => as_gap_leaf ⟨g, 0, none⟩ w
    clear hgB
    have HT : Hid (Sc.senseL (l.take (i + 1)) = st ++ [.gap t a d]) := HT
    go_wp2_with (at_builtin; refine wpList_push _ rfl _ _ 119 rfl w.heap.size 122 1 16 Tryz.underlying119 ji jz0 jz1 jz2 rfl (by omega) rfl hown #[.iface 176 (.pointer (some ⟨g, 0, none⟩))] rfl rfl (by simp [Value.oneCell']) Hn.out (by omega) Hsz.out ?_; intro A' c' w2 hown2 hd2 _)
    have hos2 := hos.snoc hpp
    go_roundg (l.length - (i + 1))
    case rel => exact ⟨i + 1, A', c', _, by rw [HT.out, List.length_append]; rfl, by go_num, by have := Hlt.out; omega, Nat.le_refl _, by rw [HT.out, List.length_append]; exact hown2, by rw [HT.out]; exact hos2, hd.trans hd2⟩
    case measure => have := Hlt.out; have := Hm.out; omega
   | branch k a m =>
    have hpp := hpv
    obtain ⟨g, rfl, _, hgB⟩ := hpv
    have has := fun w => as_branch_leaf ⟨g, 0, none⟩ w
    clear hgB
    have HT : Hid (Sc.senseL (l.take (i + 1)) = st ++ [.branch k a m]) := HT
    go_wp2_with (at_builtin; refine wpList_push _ rfl _ _ 119 rfl w.heap.size 122 1 16 Tryz.underlying119 ji jz0 jz1 jz2 rfl (by omega) rfl hown #[.iface 114 (.pointer (some ⟨g, 0, none⟩))] rfl rfl (by simp [Value.oneCell']) Hn.out (by omega) Hsz.out ?_; intro A' c' w2 hown2 hd2 _)
    have hos2 := hos.snoc hpp
    go_roundg (l.length - (i + 1))
    case rel => exact ⟨i + 1, A', c', _, by rw [HT.out, List.length_append]; rfl, by go_num, by have := Hlt.out; omega, Nat.le_refl _, by rw [HT.out, List.length_append]; exact hown2, by rw [HT.out]; exact hos2, hd.trans hd2⟩
    case measure => have := Hlt.out; have := Hm.out; omega
  ·obtain rfl : i = l.length := by omega
   have i1 : ¬ (l.length : Int) < (l.length : Int) := by omega
   have i2 : decide (l.length < l.length) = false := by simp
   rw [List.take_length] at hown hos ⊢
   generalize hst : Sc.senseL l = st at *
   clear hlt hi hm
   go_wp2_with fail
   go_ret
   exact ⟨Ao, co, ovs, rfl, hown, hos.below hd, hd⟩
end Go.Proofs.YtcjjfeephaddcaaGreatDoor
