/-
  JOINED of the texts ZH DB DC DD DE
-/
import Derived.Test.YtalklmeejdmifaaGreatDoorJar
namespace Go.Proofs.YtalklmeejdmifaaGreatDoor
open Go.RowKit
def LvC (p : Tr.PT) : Prop := ∀ (w : World) (F : Nat → Prop) (a : Nat) (fp : List Nat) (v : Value), NpF w F p a fp v → Tr.lvP p ≤ 1000000000 →
 Calls Tryz.prog 58 #[v] w fun e w' => e = .returned (.int .i64 (Tr.lvP p : Int)) ∧ w' = w
theorem lvs_le (l : List Tr.PT) (i : Nat) : Tr.lvsP (l.take i) ≤ Tr.lvsP l := by
 have h := Tr.lvs_app (l.take i) (l.drop i)
 rw [List.take_append_drop] at h
 omega
set_option maxHeartbeats 4000000 in
set_option maxRecDepth 100000 in
theorem leaves_core {w : World} {F : Nat → Prop} {q k tok a cc : Nat} {t : Bs} {Ar : Option Addr} {at_ e f u : Int} {lk : Bool} {l : List Tr.PT} {fps : List Nat} {vs : List Value} (hk : 1 ≤ k)
  (hB : Blk w q 121 (genC k tok t Ar l.length cc at_ e f u lk)) (hrow : RowF w F Ar vs) (hps : NpsF w F l a fps vs) (hl : l.length ≤ 1000000000) (hlv : Tr.lvsP l ≤ 1000000000) (IH : ∀ p ∈ l, LvC p) :
  Calls Tryz.prog 58 #[.pointer (some ⟨q, 0, none⟩)] w fun e w' => e = .returned (.int .i64 (Tr.lvsP l : Int)) ∧ w' = w := by
 have k0 := hB.cell 0
 have k3 := hB.cell 3
 simp [genC] at k0 k3
 have e0 : ((k : Int) == 0) = false := by simp; omega
 have Hl := Lib.hid hl
 have Hlv := Lib.hid hlv
 clear hl hlv hk hB
 go_enter Tryz.func58, Tryz.ntmps58
 go_wp2_with fail
 go_loopg [3, 4] l.length (fun m v u wr => ∃ i : Nat, u = .int .i64 (i : Int) ∧ v = .int .i64 (Tr.lvsP (l.take i) : Int) ∧ i ≤ l.length ∧ l.length - i ≤ m ∧ wr = w)
 case atStart => exact ⟨0, rfl, by simp [Tr.lvsP], Nat.zero_le _, Nat.le_refl _, rfl⟩
 case round =>
  obtain ⟨i, rfl, rfl, hi, hm, rfl⟩ := hrel
  by_cases hlt : i < l.length
  ·have ii0 : (0 : Int) ≤ (i : Int) := by omega
   have ii1 : (i : Int) < (l.length : Int) := by omega
   obtain ⟨qk, a', fp, hv, hnp⟩ := hps.at_ hlt
   obtain ⟨br, o, rfl, hFb, hbl, hc⟩ := hrow (by have := hps.len; omega)
   have q0 := hc _ _ hv
   have HT := Lib.hid (Tr.lvs_take l i hlt)
   have hle := lvs_le l (i + 1)
   rw [HT.out] at hle
   have hcl := IH l[i] (List.getElem_mem hlt) wr F a' fp _ hnp (by have := Hlv.out; omega)
   have a0 : IntKind.i64.wrap ((Tr.lvsP (l.take i) : Int) + (Tr.lvP l[i] : Int)) = ((Tr.lvsP (l.take i) + Tr.lvP l[i] : Nat) : Int) := by rw [IntWalk.i64_in _ (by have := Hlv.out; omega)]; omega
   have c1 : IntKind.i64.wrap ((i : Int) + 1) = (i : Int) + 1 := IntWalk.i64_in _ (by have := Hl.out; omega)
   have Hlt := Lib.hid hlt
   have Hm := Lib.hid hm
   rw [← HT.out] at a0
   clear HT
   generalize l[i] = pp at *
   clear hnp hv hc hbl hle hlt hm hi
   generalize Tr.lvsP (l.take i) = x at *
   generalize hy : Tr.lvsP (l.take (i + 1)) = y at *
   have Hy := Lib.hid hy
   clear hy
   generalize Tr.lvP _ = z at *
   go_wp2_with fail
   refine hcl.mono ?_
   clear hcl
   rintro e w4 ⟨rfl, rfl⟩
   go_wp2_with fail
   go_roundg (l.length - (i + 1))
   case rel => exact ⟨i + 1, by go_num, by rw [Hy.out], by have := Hlt.out; omega, Nat.le_refl _, rfl⟩
   case measure => have := Hlt.out; have := Hm.out; omega
  ·obtain rfl : i = l.length := by omega
   have i1 : ¬ (l.length : Int) < (l.length : Int) := by omega
   have i2 : decide (l.length < l.length) = false := by simp
   clear hlt
   rw [List.take_length]
   go_wp2_with fail
   go_ret
   exact ⟨rfl, rfl⟩
mutual
theorem lv_all : ∀ p : Tr.PT, Tr.wfP p → LvC p
 | .leaf k t x, _ => fun w F a fp v hn _ => by
  obtain ⟨g, rfl, _, hFg, hB⟩ := hn
  unfold putC at hB
  have k0 := hB.cell 0
  simp [genC] at k0
  have HP : Hid (Tr.lvP (.leaf k t x) = 1) := by show _ = _; unfold Tr.lvP; rfl
  clear hB
  go_enter Tryz.func58, Tryz.ntmps58
  go_wp2_with fail
  go_ret
  exact ⟨by rw [HP.out]; rfl, rfl⟩
 | .gap t x d, _ => fun w F a fp v hn _ => by
  obtain ⟨g, rfl, _, hFg, hB⟩ := hn
  unfold putC at hB
  have := leaves_core (l := []) (a := 0) (fps := []) (vs := []) (F := F) (by omega) hB (fun h => absurd h (by simp)) ⟨rfl, rfl⟩ (by simp) (by simp [Tr.lvsP]) (by simp)
  unfold Tr.lvP
  exact this
 | .branch k x l, hw => fun w F a fp v hn hlv => by
  unfold Tr.wfP at hw
  unfold Tr.lvP at hlv ⊢
  obtain ⟨g, fps, rfl, _, hFg, Ar, cc, vs, hB, _, hr, hps⟩ := hn
  unfold putC at hB
  exact leaves_core (by omega) hB hr hps hw.2.1 hlv (lvs_all l hw.2.2)
theorem lvs_all : ∀ l : List Tr.PT, Tr.wfsP l → ∀ p ∈ l, LvC p
 | [], _, p, hp => absurd hp (by simp)
 | q :: l, hw, p, hp => by
  unfold Tr.wfsP at hw
  rcases List.mem_cons.1 hp with he | hp
  ·rw [he]; exact lv_all q hw.1
  ·exact lvs_all l hw.2 p hp
end
structure Txq (s : Bs) (T : List Tk) : Prop where
 good : Tr.Good s T
 hT : T.length ≤ 4194304
 hs : s.length ≤ 4194304
theorem cont1 (x y : Bs) : [x].contains y = (y == x) := by rw [List.contains_cons, List.contains_nil, Bool.or_false]
section
variable {w : World} {K : Nat → Prop} {g : Nat} {s : Bs} {T : List Tk} {Ar : Option Addr} {c n i : Nat} {cut : Bool}
set_option maxHeartbeats 4000000 in
set_option maxRecDepth 100000 in
theorem ahead_walk (R : Rdq w K g s T Ar c n i cut) (hT : T.length ≤ 8388608) :
  Calls Tryz.prog 88 #[.pointer (some ⟨g, 0, none⟩)] w fun e w' => e = .returned (.int .i64 (Tr.nextP T i : Int)) ∧ w' = w := by
 obtain ⟨_, g1, g2, _, _⟩ := R.cells
 have hrow := R.row
 have hi := R.hi
 clear R
 obtain ⟨N, hN⟩ : ∃ N, N = Tr.nextP T i := ⟨_, rfl⟩
 rw [← hN]
 have HR : Hid (Tr.nextP T i = N) := hN.symm
 clear hN
 go_enter Tryz.func88, Tryz.ntmps88
 go_wp2
 go_loop [3] (fun v => ∃ k : Nat, k ≤ T.length ∧ v = .int .i64 k ∧ Hid (Tr.nextP T k = N)) (fun v => T.length - (intOf v).toNat)
 case atStart => exact ⟨i, hi, rfl, HR⟩
 case round =>
  obtain ⟨k, hk, rfl, Hk⟩ := hrel
  have i0 : (0 : Int) ≤ (k : Int) := by omega
  by_cases hlt : k < T.length
  ·have i1 : (k : Int) < (T.length : Int) := by omega
   obtain ⟨br, o, rfl, _, _, q0, _, _⟩ := hrow.tk hlt
   have Hgo : Hid (Tr.blankT T[k] = true → Tr.nextP T (k + 1) = N) := fun h => by rw [← Tr.next_go T k hlt h]; exact Hk.out
   have Hst : Hid (Tr.blankT T[k] = false → N = k) := fun h => by rw [← Hk.out]; exact Tr.next_stop T k hlt h
   have Hbt : Hid (Tr.blankT T[k] = (T[k].1 == 1 || T[k].1 == 2)) := rfl
   generalize T[k].1 = kd at *
   by_cases k1 : kd = 1
   ·subst k1
    have Hb := Lib.hid (Hgo.out Hbt.out)
    clear Hbt Hgo Hst HR
    go_wp2
    go_round
    case rel => exact ⟨k + 1, by omega, by go_num, Hb.out⟩
    case measure => simp [intOf]; omega
   ·have e1 : ((kd : Int) == 1) = false := by simp; omega
    have f1 : (kd == 1) = false := by simpa using k1
    by_cases k2 : kd = 2
    ·subst k2
     have Hb := Lib.hid (Hgo.out Hbt.out)
     clear Hbt Hgo Hst HR k1 f1
     go_wp2
     go_round
     case rel => exact ⟨k + 1, by omega, by go_num, Hb.out⟩
     case measure => simp [intOf]; omega
    ·have e2 : ((kd : Int) == 2) = false := by simp; omega
     have f2 : (kd == 2) = false := by simpa using k2
     rw [f1, f2] at Hbt
     have Hb := Lib.hid (Hst.out Hbt.out)
     clear Hbt Hgo Hst HR Hk k1 k2 f1 f2
     go_wp2
     go_ret
     exact ⟨by rw [Hb.out]; rfl, rfl⟩
  ·have i1 : ¬ (k : Int) < (T.length : Int) := by omega
   have Hb : Hid (N = k) := by show _ = _; rw [← Hk.out]; exact Tr.next_end T k (by omega)
   clear Hk HR hlt
   go_wp2
   go_ret
   exact ⟨by rw [Hb.out]; rfl, rfl⟩
set_option maxHeartbeats 4000000 in
set_option maxRecDepth 100000 in
theorem rkindn_walk (X : Txq s T) (R : Rdq w K g s T Ar c n i cut) :
  Calls Tryz.prog 51 #[.pointer (some ⟨g, 0, none⟩)] w fun e w' => e = .returned (.int .i64 (Tr.kindP T (Tr.nextP T i) : Int)) ∧ w' = w := by
 have h1 := ahead_walk R (by have := X.hT; omega)
 obtain ⟨_, g1, _, _, _⟩ := R.cells
 have hrow := R.row
 clear R X
 generalize Tr.nextP T i = k at *
 have i0 : (0 : Int) ≤ (k : Int) := by omega
 by_cases hlt : k < T.length
 ·have i1 : (k : Int) < (T.length : Int) := by omega
  have i2 : ¬ (T.length : Int) ≤ (k : Int) := by omega
  obtain ⟨br, o, rfl, _, hbl, q0, _, _⟩ := hrow.tk hlt
  have Hk := Lib.hid (Tr.kind_at T k hlt)
  generalize Tr.kindP T k = kk at *
  generalize T[k].1 = t at *
  clear hrow
  go_enter Tryz.func51, Tryz.ntmps51
  go_wp2_with fail
  refine h1.mono ?_
  clear h1
  rintro e w1 ⟨rfl, rfl⟩
  go_wp2_with fail
  go_ret
  exact ⟨by rw [Hk.out]; rfl, rfl⟩
 ·have i1 : (T.length : Int) ≤ (k : Int) := by omega
  rw [Tr.kind_end T k (by omega)]
  clear hrow
  go_enter Tryz.func51, Tryz.ntmps51
  go_wp2_with fail
  refine h1.mono ?_
  clear h1
  rintro e w1 ⟨rfl, rfl⟩
  go_wp2_with fail
  go_ret
  exact ⟨rfl, rfl⟩
set_option maxHeartbeats 4000000 in
set_option maxRecDepth 100000 in
theorem ris_walk (X : Txq s T) (R : Rdq w K g s T Ar c n i cut) (x : Bs) :
  Calls Tryz.prog 90 #[.pointer (some ⟨g, 0, none⟩), .string ⟨x.toArray⟩] w fun e w' => e = .returned (.bool (Tr.isP s T [x] i)) ∧ Below w.heap.size w w' := by
 have h1 := ahead_walk R (by have := X.hT; omega)
 obtain ⟨g0, g1, _, _, _⟩ := R.cells
 have hrow := R.row
 have hgl := R.lt
 have HR : Hid (Tr.isP s T [x] i = ((Tr.kindP T (Tr.nextP T i) == 4 || Tr.kindP T (Tr.nextP T i) == 7) && [x].contains (Tr.textP s T (Tr.nextP T i)))) := rfl
 generalize Tr.isP s T [x] i = r at *
 generalize Tr.nextP T i = k at *
 have i0 : (0 : Int) ≤ (k : Int) := by omega
 by_cases hlt : k < T.length
 ·have i1 : (k : Int) < (T.length : Int) := by omega
  have i2 : ¬ (T.length : Int) ≤ (k : Int) := by omega
  obtain ⟨br, o, rfl, _, hbl, q0, q1, q2⟩ := hrow.tk hlt
  obtain ⟨h2, _, _⟩ := X.good.at_ hlt
  have hs := X.hs
  rw [Tr.kind_at T k hlt, Tr.text_at s T k hlt] at HR
  have Hsub := Lib.hid (sub_str s T[k])
  generalize T[k] = t at *
  obtain ⟨tk, ta, tl⟩ := t
  dsimp only at h2 q0 q1 q2
  clear hrow X R
  by_cases hk : tk = 4 ∨ tk = 7
  ·have HB : Hid (r = (Tr.subT s (tk, ta, tl) == x)) := by
    show _ = _
    rw [HR.out]
    rw [cont1]
    rcases hk with rfl | rfl <;> rfl
   clear HR
   have hb0 : Below w.heap.size w (w.alloc (.cells #[.int .i64 (tk : Int), .int .i64 (ta : Int), .int .i64 (tl : Int)] 124)) := (Below.refl _ _).alloc (Nat.le_refl _) _
   have hB : Blk (w.alloc (.cells #[.int .i64 (tk : Int), .int .i64 (ta : Int), .int .i64 (tl : Int)] 124)) w.heap.size 124 #[.int .i64 (tk : Int), .int .i64 (ta : Int), .int .i64 (tl : Int)] := Blk.new _ _ _
   obtain ⟨bx, hbx⟩ : ∃ b, b = w.heap.size := ⟨_, rfl⟩
   rw [← hbx] at hB
   have r0 := (hb0.cell (p := ⟨g, 0, none⟩) hgl).trans g0
   have a0 : IntKind.i64.wrap ((ta : Int) + tl) = (ta : Int) + tl := IntWalk.i64_in _ (by omega)
   have a1 : (0 : Int) ≤ (ta : Int) + tl := by omega
   have a2 : ((ta : Int) + tl).toNat = ta + tl := by omega
   have a3 : (ta : Int) + tl ≤ (s.length : Int) := by omega
   have a4 : (ta : Int) ≤ (ta : Int) + tl := by omega
   have a5 : ta ≤ ta + tl := by omega
   have a6 : ta + tl ≤ s.length := h2
   have b0 := hB.cell 0
   have b1 := hB.cell 1
   have b2 := hB.cell 2
   simp at b0 b1 b2
   have HE : Hid (((⟨s.toArray⟩ : ByteArray).extract ta (ta + tl)).toList = Tr.subT s (tk, ta, tl)) := by
    show _ = _
    have h := Hsub.out
    injection h with h
    have h' : (⟨s.toArray⟩ : ByteArray).extract ta (ta + tl) = ⟨(Tr.subT s (tk, ta, tl)).toArray⟩ := h
    rw [h']
    simp
   clear hs h2 Hsub
   rcases hk with rfl | rfl
   ·go_enter Tryz.func90, Tryz.ntmps90
    go_wp2_with fail
    refine h1.mono ?_
    clear h1
    rintro e w1 ⟨rfl, rfl⟩
    go_upto_region 5 with fail
    rw [← hbx]
    clear hbx g0 g1 q0 q1 q2 hbl hgl
    generalize w1.alloc (.cells #[.int .i64 ((4 : Nat) : Int), .int .i64 (ta : Int), .int .i64 (tl : Int)] 124) = w2 at *
    go_quiet (fail)
    go_wp2_with fail
    go_ret
    exact ⟨by rw [HB.out, ← HE.out]; rfl, below_drewN hb0 _⟩
   ·go_enter Tryz.func90, Tryz.ntmps90
    go_wp2_with fail
    refine h1.mono ?_
    clear h1
    rintro e w1 ⟨rfl, rfl⟩
    go_upto_region 5 with fail
    rw [← hbx]
    clear hbx g0 g1 q0 q1 q2 hbl hgl
    generalize w1.alloc (.cells #[.int .i64 ((7 : Nat) : Int), .int .i64 (ta : Int), .int .i64 (tl : Int)] 124) = w2 at *
    go_quiet (fail)
    go_wp2_with fail
    go_ret
    exact ⟨by rw [HB.out, ← HE.out]; rfl, below_drewN hb0 _⟩
  ·have hk4 : ¬ tk = 4 := fun e => hk (.inl e)
   have hk7 : ¬ tk = 7 := fun e => hk (.inr e)
   have e4 : ((tk : Int) == 4) = false := by simp; omega
   have e7 : ((tk : Int) == 7) = false := by simp; omega
   have HB : Hid (r = false) := by
    show _ = _
    rw [HR.out]
    simp [hk4, hk7]
   have n4 : ((tk : Int) != 4) = true := by rw [bne, e4]; rfl
   have n7 : ((tk : Int) != 7) = true := by rw [bne, e7]; rfl
   have i3 : decide (T.length ≤ k) = false := by simpa using hlt
   clear hk hk4 hk7 HR hs h2
   go_enter Tryz.func90, Tryz.ntmps90
   go_wp2_with fail
   refine h1.mono ?_
   clear h1
   rintro e w1 ⟨rfl, rfl⟩
   go_wp2_with fail
   go_ret
   exact ⟨by rw [HB.out]; rfl, Below.refl _ _⟩
 ·have i1 : (T.length : Int) ≤ (k : Int) := by omega
  rw [Tr.kind_end T k (by omega)] at HR
  clear hrow X R
  go_enter Tryz.func90, Tryz.ntmps90
  go_wp2_with fail
  refine h1.mono ?_
  clear h1
  rintro e w1 ⟨rfl, rfl⟩
  go_wp2_with fail
  go_ret
  exact ⟨by rw [HR.out]; rfl, Below.refl _ _⟩
end
theorem infoRN : (Tryz.prog.info? 33).map (fun i => (i.zero, i.size, i.bytes)) = some (some (.pointer none), 1, 8) := by kernel_rfl
theorem leaves_calm (s : Bs) (T : List Tk) (b i j : Nat) : Tr.deepsB (leavesP s T b i j) = false := by
 unfold leavesP
 induction (T.drop i).take (j - i) with
 | nil => rfl
 | cons t l ih => simp only [List.map_cons, Tr.deepsB, ih]; rfl
def StD (w : World) (K : Nat → Prop) (g h kind : Nat) (s : Bs) (T : List Tk) (Ar : Option Addr) (c0 n : Nat) (cut : Bool) (st : Tr.St) (e : Ending) (w' : World) : Prop :=
 e = .returned (.tuple #[]) ∧ Aft K g w w' ∧ Rdq w' K g s T Ar c0 n st.2 cut ∧ Bn w' K h kind st.1
set_option maxHeartbeats 8000000 in
set_option maxRecDepth 100000 in
theorem rtake_walk {w : World} {K : Nat → Prop} {g : Nat} {s : Bs} {T : List Tk} {Ar : Option Addr} {c0 n i : Nat} {cut : Bool} {h kind : Nat} {pts : List Tr.PT} (b : Nat) (X : Txq s T) (R : Rdq w K g s T Ar c0 n i cut) (hb : Bn w K h kind pts) (hl : pts.length ≤ 50000000) :
  Calls Tryz.prog 91 #[.pointer (some ⟨g, 0, none⟩), .pointer (some ⟨h, 0, none⟩)] w (StD w K g h kind s T Ar c0 n cut (Tr.thn (pts, i) (Tr.takeP s T b))) := by
 obtain ⟨i0, ji, jz0, jz1, jz2⟩ := info_parts infoRN
 have HP : Hid (Tr.thn (pts, i) (Tr.takeP s T b) = (pts ++ leavesP s T b i (Tr.toP T i), Tr.toP T i)) := rfl
 have hT := X.hT
 have hs := X.hs
 have hto1 := Tr.to_ge T i R.hi
 have hto2 := Tr.to_le T i
 have HT : Hid (Tr.toP T i = min (Tr.nextP T i + 1) T.length) := rfl
 have hi := R.hi
 have hnx := ahead_walk R (by omega)
 generalize Tr.toP T i = to_ at *
 rw [HP.out]
 clear HP
 generalize Tr.nextP T i = nx at *
 go_enter Tryz.func91, Tryz.ntmps91
 go_wp2_with fail
 refine hnx.mono ?_
 clear hnx
 rintro e w1 ⟨rfl, rfl⟩
 go_wp2_with fail
 go_loopg [5] (to_ - i) (fun q v wr => ∃ j, i ≤ j ∧ j ≤ to_ ∧ to_ - j ≤ q ∧ Aft K g w1 wr ∧ Rdq wr K g s T Ar c0 n j cut ∧ Bn wr K h kind (pts ++ leavesP s T b i j))
 case atStart => exact ⟨i, Nat.le_refl _, hto1, Nat.le_refl _, Aft.refl _ _ _, R, by rw [leaves_self, List.append_nil]; exact hb⟩
 case round =>
  clear R hb
  obtain ⟨j, hij, hjt, hq, hA, R, hb⟩ := hrel
  obtain ⟨g0, g1, g2, _, _⟩ := R.cells
  have hrow := R.row
  have HT2 : Hid (j < to_ ↔ (j ≤ nx ∧ j < T.length)) := by show _ ↔ _; have := HT.out; omega
  by_cases hlt : j < to_
  ·obtain ⟨hjn, hjT⟩ := HT2.out.1 hlt
   have j0 : (0 : Int) ≤ (j : Int) := by omega
   have j1 : (j : Int) < (T.length : Int) := by omega
   have j2 : (j : Int) ≤ (nx : Int) := by omega
   obtain ⟨br, o, rfl, hbr, hbl, q0, q1, q2⟩ := hrow.tk hjT
   have HL := Lib.hid (leaves_succ s T b i j hij hjT)
   have hll := leaves_len s T b i j
   obtain ⟨h1, h2, h3⟩ := X.good.at_ hjT
   have Hlf : Hid (Tr.leafP s b T[j] = .leaf T[j].1 (Tr.subT s T[j]) (T[j].2.1 - b)) := rfl
   have Hsub := Lib.hid (sub_str s T[j])
   generalize T[j] = t at *
   obtain ⟨tk, ta, tl⟩ := t
   dsimp only at h1 h2 h3 q0 q1 q2 Hlf Hsub
   have hpl : (pts ++ leavesP s T b i j).length ≤ 60000000 := by rw [List.length_append]; omega
   have HL2 : Hid (pts ++ leavesP s T b i (j + 1) = (pts ++ leavesP s T b i j) ++ [.leaf tk (Tr.subT s (tk, ta, tl)) (ta - b)]) := by
    show _ = _
    rw [HL.out, Hlf.out, List.append_assoc]
   clear HL Hlf hll hrow
   obtain ⟨fps, A, c, vs, hb⟩ := hb
   generalize pts ++ leavesP s T b i j = ps at *
   obtain ⟨bx, hbx⟩ : ∃ x, x = wr.heap.size := ⟨_, rfl⟩
   have hHT : Hid (j < to_) := hlt
   have hb0 := fun m => below_drewN (Below.refl wr.heap.size wr) m
   have hA0 := fun m => hA.trans (Kept.aft (Kept.below (hb0 m) R.inK) g)
   have R0 := fun m => R.below (hb0 m)
   have hbb0 := fun m => hb.below (hb0 m)
   clear hA R hb
   go_wp2_with fail
   go_quiet (fail)
   have hA := hA0 nq
   have R := R0 nq
   have hb := hbb0 nq
   rw [show wr.heap.size = (wr.drewN nq).heap.size from rfl] at hbx hbl
   have g1 : (wr.drewN nq).cell? ⟨g, 1, none⟩ = _ := g1
   have g2 : (wr.drewN nq).cell? ⟨g, 2, none⟩ = _ := g2
   have q0 : (wr.drewN nq).cell? ⟨br, o + j * 3, none⟩ = _ := q0
   have q1 : (wr.drewN nq).cell? ⟨br, o + j * 3 + 1, none⟩ = _ := q1
   have q2 : (wr.drewN nq).cell? ⟨br, o + j * 3 + 2, none⟩ = _ := q2
   clear hA0 R0 hbb0 hb0 g0
   generalize wr.drewN nq = w2 at *
   go_wp2_with fail
   refine wp_region_G 11 (fun w' : World => w'.cell? ⟨g, 1, none⟩ = some (.slice (some ⟨br, o, none⟩) T.length c0) ∧ w'.cell? ⟨g, 2, none⟩ = some (.int .i64 (j : Int)) ∧ w'.cell? ⟨br, o + j * 3, none⟩ = some (.int .i64 (tk : Int)) ∧ w'.cell? ⟨br, o + j * 3 + 1, none⟩ = some (.int .i64 (ta : Int)) ∧ w'.cell? ⟨br, o + j * 3 + 2, none⟩ = some (.int .i64 (tl : Int))) (by kernel_rfl) ?_
   have hgl := R.lt
   have hS0 : (fun w' : World => w'.cell? ⟨g, 1, none⟩ = some (.slice (some ⟨br, o, none⟩) T.length c0) ∧ w'.cell? ⟨g, 2, none⟩ = some (.int .i64 (j : Int)) ∧ w'.cell? ⟨br, o + j * 3, none⟩ = some (.int .i64 (tk : Int)) ∧ w'.cell? ⟨br, o + j * 3 + 1, none⟩ = some (.int .i64 (ta : Int)) ∧ w'.cell? ⟨br, o + j * 3 + 2, none⟩ = some (.int .i64 (tl : Int))) w2.drew := ⟨g1, g2, q0, q1, q2⟩
   refine wpAnyG_tk 0 hS0 ?_
   simp only [Act.put, List.setIfInBounds_toArray]
   refine wpAnyG_tk 1 hS0 ?_
   simp only [Act.put]
   refine wpAnyG_tk 2 hS0 ?_
   simp only [Act.put]
   refine wpAnyG_tk 3 hS0 ?_
   simp only [Act.put]
   refine wpAnyG_tk 4 hS0 ?_
   simp only [Act.put]
   refine wpAnyG_tk 5 hS0 ?_
   simp only [Act.put]
   refine wpAnyG_tk 6 hS0 ?_
   simp only [Act.put]
   refine wpAnyG_tk 7 hS0 ?_
   simp only [Act.put]
   refine wpAnyG_tk 8 hS0 ?_
   simp only [Act.put]
   refine wpAnyG_tk 9 hS0 ?_
   simp only [Act.put]
   clear hS0
   refine wpAnyG_on 10 fun C hC => ?_
   go_simp
   refine hC.out _ _ (fun _ => ⟨(cell_alloc _ _ _ _ hgl).trans g1, (cell_alloc _ _ _ _ hgl).trans g2, (cell_alloc _ _ _ _ hbl).trans q0, (cell_alloc _ _ _ _ hbl).trans q1, (cell_alloc _ _ _ _ hbl).trans q2⟩) ?_
   clear hC C
   refine wpAnyG_on 11 fun C hC => ?_
   go_simp
   refine hC.out _ _ (fun h => absurd rfl h) ?_
   clear hC C
   refine wpAnyG_done (by kernel_rfl) ?_ _
   have hd : Below w2.heap.size w2 ((w2.alloc (.cells #[.int .i64 (tk : Int), .int .i64 (ta : Int), .int .i64 (tl : Int)] 124)).drew) := ((Below.refl _ _).alloc (Nat.le_refl _) _).drew
   have hA := hA.trans (Kept.aft (Kept.below hd R.inK) g)
   have R := R.below hd
   have hb := hb.below hd
   have hBx : Blk ((w2.alloc (.cells #[.int .i64 (tk : Int), .int .i64 (ta : Int), .int .i64 (tl : Int)] 124)).drew) bx 124 #[.int .i64 (tk : Int), .int .i64 (ta : Int), .int .i64 (tl : Int)] := by rw [hbx]; exact (Blk.new _ _ _).drew
   rw [← hbx]
   clear hbx hd g1 g2 q0 q1 q2 hbl hbr hgl
   generalize (w2.alloc (.cells #[.int .i64 (tk : Int), .int .i64 (ta : Int), .int .i64 (tl : Int)] 124)).drew = w2 at *
   go_wp2_with fail
   refine wp_region_G 25 (fun w' : World => w'.cell? ⟨h, 3, none⟩ = some (.slice A ps.length c) ∧ w'.cell? ⟨bx, 0, none⟩ = some (.int .i64 (tk : Int)) ∧ w'.cell? ⟨bx, 1, none⟩ = some (.int .i64 (ta : Int)) ∧ w'.cell? ⟨bx, 2, none⟩ = some (.int .i64 (tl : Int)) ∧ w'.cell? ⟨g, 0, none⟩ = some (.string ⟨s.toArray⟩)) (by kernel_rfl) ?_
   have hd : Below w2.heap.size w2 w2.drew := (Below.refl _ _).drew
   have hA := hA.trans (Kept.aft (Kept.below hd R.inK) g)
   have R := R.below hd
   have hb := hb.below hd
   have hBx := hBx.drew
   clear hd
   generalize w2.drew = w3 at *
   have o1 := hb.blk.cell 3
   have b0 := hBx.cell 0
   have b1 := hBx.cell 1
   have b2 := hBx.cell 2
   simp [nodeC] at o1 b0 b1 b2
   obtain ⟨g0, _, _, _, _⟩ := R.cells
   have hS0 : (fun w' : World => w'.cell? ⟨h, 3, none⟩ = some (.slice A ps.length c) ∧ w'.cell? ⟨bx, 0, none⟩ = some (.int .i64 (tk : Int)) ∧ w'.cell? ⟨bx, 1, none⟩ = some (.int .i64 (ta : Int)) ∧ w'.cell? ⟨bx, 2, none⟩ = some (.int .i64 (tl : Int)) ∧ w'.cell? ⟨g, 0, none⟩ = some (.string ⟨s.toArray⟩)) w3 := ⟨o1, b0, b1, b2, g0⟩
   have a0 : IntKind.i64.wrap ((ta : Int) + tl) = (ta : Int) + tl := IntWalk.i64_in _ (by omega)
   have a1 : (0 : Int) ≤ (ta : Int) + tl := by omega
   have a2 : ((ta : Int) + tl).toNat = ta + tl := by omega
   have a3 : (ta : Int) + tl ≤ (s.length : Int) := by omega
   have a4 : (ta : Int) ≤ (ta : Int) + tl := by omega
   have a5 : ta ≤ ta + tl := by omega
   have a6 : ta + tl ≤ s.length := h1
   refine wpAnyG_tk 0 hS0 ?_
   simp only [Act.put, List.setIfInBounds_toArray]
   refine wpAnyG_tk 1 hS0 ?_
   simp only [Act.put]
   refine wpAnyG_tk 2 hS0 ?_
   simp only [Act.put]
   refine wpAnyG_tk 3 hS0 ?_
   simp only [Act.put]
   refine wpAnyG_tk 4 hS0 ?_
   simp only [Act.put]
   refine wpAnyG_tk 5 hS0 ?_
   simp only [Act.put]
   refine wpAnyG_tk 6 hS0 ?_
   simp only [Act.put]
   refine wpAnyG_tk 7 hS0 ?_
   simp only [Act.put]
   refine wpAnyG_tk 8 hS0 ?_
   simp only [Act.put]
   refine wpAnyG_tk 9 hS0 ?_
   simp only [Act.put]
   refine wpAnyG_tk 10 hS0 ?_
   simp only [Act.put]
   refine wpAnyG_tk 11 hS0 ?_
   simp only [Act.put]
   refine wpAnyG_tk 12 hS0 ?_
   simp only [Act.put]
   refine wpAnyG_tk 13 hS0 ?_
   simp only [Act.put]
   refine wpAnyG_tk 14 hS0 ?_
   simp only [Act.put]
   refine wpAnyG_tk 15 hS0 ?_
   simp only [Act.put]
   refine wpAnyG_tk 16 hS0 ?_
   simp only [Act.put]
   refine wpAnyG_tk 17 hS0 ?_
   simp only [Act.put]
   refine wpAnyG_tk 18 hS0 ?_
   simp only [Act.put]
   refine wpAnyG_tk 19 hS0 ?_
   simp only [Act.put]
   clear hS0
   have hd : Below w3.heap.size w3 (w3.alloc (.cells #[.int .i64 0, .int .i64 (tk : Int), .string ((⟨s.toArray⟩ : ByteArray).extract ta (ta + tl)), .slice none 0 0, .int .i64 0, .int .i64 0, .int .i64 0, .int .i64 0, .bool false] 121)) := (Below.refl _ _).alloc (Nat.le_refl _) _
   have hBg : Blk (w3.alloc (.cells #[.int .i64 0, .int .i64 (tk : Int), .string ((⟨s.toArray⟩ : ByteArray).extract ta (ta + tl)), .slice none 0 0, .int .i64 0, .int .i64 0, .int .i64 0, .int .i64 0, .bool false] 121)) w3.heap.size 121 #[.int .i64 0, .int .i64 (tk : Int), .string ((⟨s.toArray⟩ : ByteArray).extract ta (ta + tl)), .slice none 0 0, .int .i64 0, .int .i64 0, .int .i64 0, .int .i64 0, .bool false] := Blk.new _ _ _
   have hA := hA.trans (Kept.aft (Kept.below hd R.inK) g)
   have hp : RnF (w3.alloc (.cells #[.int .i64 0, .int .i64 (tk : Int), .string ((⟨s.toArray⟩ : ByteArray).extract ta (ta + tl)), .slice none 0 0, .int .i64 0, .int .i64 0, .int .i64 0, .int .i64 0, .bool false] 121)) (fun x => ¬ K x ∧ x ≠ h ∧ some x ≠ (Value.slice A ps.length c).ownBlock) (.leaf tk (Tr.subT s (tk, ta, tl)) (ta - b)) [w3.heap.size] (.pointer (some ⟨w3.heap.size, 0, none⟩)) :=
    ⟨w3.heap.size, rfl, rfl, ⟨fun hk => Nat.lt_irrefl _ (R.inK _ hk), fun e => by have := hb.blk.lt; omega, fun e => by have := hb.row_lt _ e.symm; omega⟩, by unfold nodeC; rw [← show Value.string ((⟨s.toArray⟩ : ByteArray).extract ta (ta + tl)) = .string ⟨(Tr.subT s (tk, ta, tl)).toArray⟩ from Hsub.out]; exact hBg⟩
   have hdj : ∀ x ∈ [w3.heap.size], x ∉ fps := fun x hx hf => by
    simp only [List.mem_singleton] at hx
    subst hx
    exact Nat.lt_irrefl _ (RnsF.fp _ _ _ hb.parts _ hf).2
   have hbx3 := hBx.lt
   have hgl := R.lt
   refine wpAnyG_on 20 fun C hC => ?_
   go_simp
   have c0' := (cell_alloc w3 (.cells #[.int .i64 0, .int .i64 (tk : Int), .string ((⟨s.toArray⟩ : ByteArray).extract ta (ta + tl)), .slice none 0 0, .int .i64 0, .int .i64 0, .int .i64 0, .int .i64 0, .bool false] 121) bx 0 hbx3).trans b0
   have c1 := (cell_alloc w3 (.cells #[.int .i64 0, .int .i64 (tk : Int), .string ((⟨s.toArray⟩ : ByteArray).extract ta (ta + tl)), .slice none 0 0, .int .i64 0, .int .i64 0, .int .i64 0, .int .i64 0, .bool false] 121) bx 1 hbx3).trans b1
   have c2 := (cell_alloc w3 (.cells #[.int .i64 0, .int .i64 (tk : Int), .string ((⟨s.toArray⟩ : ByteArray).extract ta (ta + tl)), .slice none 0 0, .int .i64 0, .int .i64 0, .int .i64 0, .int .i64 0, .bool false] 121) bx 2 hbx3).trans b2
   have f0 := (cell_alloc w3 (.cells #[.int .i64 0, .int .i64 (tk : Int), .string ((⟨s.toArray⟩ : ByteArray).extract ta (ta + tl)), .slice none 0 0, .int .i64 0, .int .i64 0, .int .i64 0, .int .i64 0, .bool false] 121) g 0 hgl).trans g0
   have hBx := hBx.alloc (.cells #[.int .i64 0, .int .i64 (tk : Int), .string ((⟨s.toArray⟩ : ByteArray).extract ta (ta + tl)), .slice none 0 0, .int .i64 0, .int .i64 0, .int .i64 0, .int .i64 0, .bool false] 121)
   have R := R.below hd
   have hb := hb.below hd
   have o1 : (w3.alloc (.cells #[.int .i64 0, .int .i64 (tk : Int), .string ((⟨s.toArray⟩ : ByteArray).extract ta (ta + tl)), .slice none 0 0, .int .i64 0, .int .i64 0, .int .i64 0, .int .i64 0, .bool false] 121)).cell? ⟨h, 3, none⟩ = some (.slice A ps.length c) := by
    have := hb.blk.cell 3
    simpa [nodeC] using this
   refine hC.out _ _ (fun _ => ⟨o1, c0', c1, c2, f0⟩) ?_
   clear hC C hd hBg b0 b1 b2 g0
   obtain ⟨q, hq⟩ : ∃ q, q = w3.heap.size := ⟨_, rfl⟩
   rw [← hq] at hp hdj ⊢
   clear hq
   generalize (w3.alloc (.cells #[.int .i64 0, .int .i64 (tk : Int), .string ((⟨s.toArray⟩ : ByteArray).extract ta (ta + tl)), .slice none 0 0, .int .i64 0, .int .i64 0, .int .i64 0, .int .i64 0, .bool false] 121)) = w6 at *
   refine wpAnyG_on 21 fun C hC => ?_
   go_simp
   refine hC.out _ _ (fun _ => ⟨(cell_alloc _ _ _ _ hb.blk.lt).trans o1, (cell_alloc _ _ _ _ hBx.lt).trans c0', (cell_alloc _ _ _ _ hBx.lt).trans c1, (cell_alloc _ _ _ _ hBx.lt).trans c2, (cell_alloc _ _ _ _ R.lt).trans f0⟩) ?_
   clear hC C
   refine wpAnyG_on 22 fun C hC => ?_
   refine step_append_lies _ (by rfl) _ _ _ (by rfl) 0 33 i0 _ 1 8 Tryz.underlying66 ji jz0 jz1 jz2 rfl (by omega) (.slice A ps.length c) ps.length vs (by rfl) (hb.own.alloc (.cells #[.pointer (some ⟨q, 0, none⟩)] 33)) ⟨w6.heap.size, 0, none⟩ 1 1 [.pointer (some ⟨q, 0, none⟩)] (by rfl) (by rfl) (World.news_of_block (heap_alloc_new w6 _)) (by simp [Value.oneCell']) (by omega) (by unfold maxLen; omega) (by omega) (Nat.zero_le _) (w6.heap.size + 1) (by simp) ?_
   intro gg cap' w5 hown5 hgrow hat hlt5
   have hpu := hb.push R.inK hp (by simp) hdj hown5 hgrow hat
   have hg5 := (hb.blk.alloc (.cells #[.pointer (some ⟨q, 0, none⟩)] 33)).grown hgrow hb.row_ne
   have b1 := hg5.cell 3
   have bf := hg5.frozen 3
   simp [nodeC] at b1
   have hx5 := (hBx.alloc (.cells #[.pointer (some ⟨q, 0, none⟩)] 33)).grown hgrow (own_ne hb.own hBx (by decide))
   have hr5 := (R.rd.alloc (.cells #[.pointer (some ⟨q, 0, none⟩)] 33)).grown hgrow (own_ne hb.own R.rd (by decide))
   have e0 := hx5.cell 0
   have e1 := hx5.cell 1
   have e2 := hx5.cell 2
   have k0 := hr5.cell 0
   simp at e0 e1 e2 k0
   refine hC.out _ _ (fun _ => ⟨b1, e0, e1, e2, k0⟩) ?_
   clear hC C
   refine wpAnyG_on 23 fun C hC => ?_
   go_simp
   refine hC.out _ _ (fun _ => ⟨b1, e0, e1, e2, k0⟩) ?_
   clear hC C
   refine wpAnyG_on 24 fun C hC => ?_
   go_simp
   refine hC.out _ _ (fun _ => ⟨b1, e0, e1, e2, k0⟩) ?_
   clear hC C
   refine wpAnyG_on 25 fun C hC => ?_
   go_simp
   refine hC.out _ _ (fun h => absurd rfl h) ?_
   clear hC C
   refine wpAnyG_done (by kernel_rfl) ?_ _
   have hB := hpu.1
   have R := R.kept hpu.2
   have hA := hA.trans (hpu.2.aft g)
   clear hb hp hdj o1 hown5 hgrow hat hlt5 hpu hg5 b1 bf c0' c1 c2 f0 hbx3 hgl hBx hx5 hr5 e0 e1 e2 k0 a0 a1 a2 a3 a4 a5 a6 Hsub
   generalize (World.setCell w5 ⟨h, 3, none⟩ (.slice (some ⟨gg, 0, none⟩) (ps.length + 1) cap')) = w7 at *
   obtain ⟨_, _, g2, _, _⟩ := R.cells
   have gf := R.rd.frozen 2
   go_wp2_with fail
   go_roundg (to_ - (j + 1))
   case rel =>
    have hR := R.at_ (j := j + 1) (by omega)
    have hBs := hB.aft ((Aft.refl (Old w7) g w7).set 2 (.int .i64 ((j + 1 : Nat) : Int))) R.kg
    rw [← HL2.out, show ((j + 1 : Nat) : Int) = (j : Int) + 1 by omega] at hBs
    have hA2 := hA.set 2 (.int .i64 ((j : Int) + 1))
    rw [show ((j + 1 : Nat) : Int) = (j : Int) + 1 by omega] at hR
    have hlt := hHT.out
    exact ⟨j + 1, by omega, by omega, Nat.le_refl _, hA2, hR, hBs⟩
   case measure => have hlt := hHT.out; omega
  ·obtain rfl : j = to_ := by omega
   have hno : Hid (¬ (j ≤ nx ∧ j < T.length)) := fun h => hlt (HT2.out.2 h)
   clear hlt HT2 HT hq
   by_cases hjn : j ≤ nx
   ·have hjT : ¬ j < T.length := fun h => hno.out ⟨hjn, h⟩
    have j1 : ¬ (j : Int) < (T.length : Int) := by omega
    have j2 : (j : Int) ≤ (nx : Int) := by omega
    clear hno
    have hb0 := fun m => below_drewN (Below.refl wr.heap.size wr) m
    go_wp2_with fail
    go_quiet (fail)
    go_wp2_with fail
    go_end0
    exact ⟨rfl, hA.trans (Kept.aft (Kept.below (hb0 _) R.inK) g), R.below (hb0 _), hb.below (hb0 _)⟩
   ·have j2 : ¬ (j : Int) ≤ (nx : Int) := by omega
    have j3 : decide (j ≤ nx) = false := by simpa using hjn
    have j4 : decide ((j : Int) ≤ (nx : Int)) = false := by simpa using hjn
    clear hno hjn
    have hb0 := fun m => below_drewN (Below.refl wr.heap.size wr) m
    go_wp2_with fail
    go_quiet (fail)
    go_wp2_with fail
    go_end0
    exact ⟨rfl, hA.trans (Kept.aft (Kept.below (hb0 _) R.inK) g), R.below (hb0 _), hb.below (hb0 _)⟩
theorem lit2_new (w : World) (o o2 : Obj) : ((w.alloc o).alloc o2).heap[w.heap.size + 1]? = some o2 := by
 have h := heap_alloc_new (w.alloc o) o2
 simpa using h
section
variable {w w5 : World} {K : Nat → Prop} {g h kind : Nat} {s : Bs} {T : List Tk} {Ar : Option Addr} {c0 n i : Nat} {cut : Bool} {pts : List Tr.PT} {fps : List Nat} {A : Option Addr} {c : Nat} {vs : List Value}
def Rnew (w : World) (K : Nat → Prop) (h : Nat) (pts : List Tr.PT) (fps : List Nat) (A : Option Addr) (c : Nat) (p : Tr.PT) (v : Value) : Prop :=
 ∃ fp, RnF w (fun x => ¬ K x ∧ x ≠ h ∧ some x ≠ (Value.slice A pts.length c).ownBlock) p fp v ∧ fp.Nodup ∧ ∀ x ∈ fp, x ∉ fps
theorem Rnew.of {w0 : World} {p : Tr.PT} {v : Value} (hp : Rn w (fun x => ¬ Old w0 x) p v) (hK : In K w0) (hb : OBn w0 K h kind pts fps A c vs) : Rnew w K h pts fps A c p v := by
 obtain ⟨fp, hp, hn⟩ := hp
 refine ⟨fp, RnF.keep (Nat.le_refl _) (fun _ hF _ => ⟨rfl, fun hk => hF (hK _ hk), fun e => hF (e ▸ hb.blk.lt), fun e => hF (hb.row_lt _ e.symm)⟩) _ _ _ hp, hn, fun x hx hf => ?_⟩
 exact (RnF.fp _ _ _ hp x hx).1 (RnsF.fp _ _ _ hb.parts x hf).2
theorem Rnew.below {w' : World} {p : Tr.PT} {v : Value} (hp : Rnew w K h pts fps A c p v) (hd : Below w.heap.size w w') : Rnew w' K h pts fps A c p v := by
 obtain ⟨fp, h1, h2, h3⟩ := hp
 exact ⟨fp, RnF.keep hd.size (fun b hF hl => ⟨hd.block b hl, hF⟩) _ _ _ h1, h2, h3⟩
theorem node_push (R : Rdq w K g s T Ar c0 n i cut) (hb : OBn w K h kind pts fps A c vs) {p : Tr.PT} {v : Value} {gg cap : Nat} (hp : Rnew w K h pts fps A c p v)
  (hown : w5.ownsRow 0 33 1 (.slice (some ⟨gg, 0, none⟩) (pts.length + 1) cap) (pts.length + 1) (vs ++ [v]))
  (hgrow : (w.alloc (.cells #[v] 33)).grownBy w5 (Value.slice A pts.length c).ownBlock)
  (hat : (Value.slice A pts.length c).ownBlock = some gg ∨ gg = w.heap.size + 1) :
  w5.cell? ⟨h, 3, none⟩ = some (.slice A pts.length c) ∧ w5.frozen? ⟨h, 3, none⟩ = false ∧ Bn (w5.setCell ⟨h, 3, none⟩ (.slice (some ⟨gg, 0, none⟩) (pts.length + 1) cap)) K h kind (pts ++ [p]) ∧ Kept K w (w5.setCell ⟨h, 3, none⟩ (.slice (some ⟨gg, 0, none⟩) (pts.length + 1) cap)) ∧ Rdq (w5.setCell ⟨h, 3, none⟩ (.slice (some ⟨gg, 0, none⟩) (pts.length + 1) cap)) K g s T Ar c0 n i cut := by
 obtain ⟨fp, h1, h2, h3⟩ := hp
 have hpu := hb.push R.inK h1 h2 h3 hown hgrow hat
 have hg5 := (hb.blk.alloc (.cells #[v] 33)).grown hgrow hb.row_ne
 have b1 := hg5.cell 3
 simp [nodeC] at b1
 exact ⟨b1, hg5.frozen 3, hpu.1, hpu.2, R.kept hpu.2⟩
theorem rmiss_push {word : Bs} {gg cap pl : Nat} {d : Bool} (R : Rdq w K g s T Ar c0 n i cut) (hb : OBn w K h kind pts fps A c vs)
  (hown : w5.ownsRow 0 33 1 (.slice (some ⟨gg, 0, none⟩) (pts.length + 1) cap) (pts.length + 1) (vs ++ [.pointer (some ⟨w.heap.size, 0, none⟩)]))
  (hgrow : ((w.alloc (.cells (nodeC 1 0 word (.slice none 0 0)) 121)).alloc (.cells #[.pointer (some ⟨w.heap.size, 0, none⟩)] 33)).grownBy w5 (Value.slice A pts.length c).ownBlock)
  (hat : (Value.slice A pts.length c).ownBlock = some gg ∨ gg = w.heap.size + 1 + 1) :
  w5.cell? ⟨h, 3, none⟩ = some (.slice A pts.length c) ∧ w5.frozen? ⟨h, 3, none⟩ = false ∧ Bn (w5.setCell ⟨h, 3, none⟩ (.slice (some ⟨gg, 0, none⟩) (pts.length + 1) cap)) K h kind (pts ++ [.gap word pl d]) ∧ Kept K w (w5.setCell ⟨h, 3, none⟩ (.slice (some ⟨gg, 0, none⟩) (pts.length + 1) cap)) ∧ Rdq (w5.setCell ⟨h, 3, none⟩ (.slice (some ⟨gg, 0, none⟩) (pts.length + 1) cap)) K g s T Ar c0 n i cut := by
 have hd : Below w.heap.size w (w.alloc (.cells (nodeC 1 0 word (.slice none 0 0)) 121)) := (Below.refl _ _).alloc (Nat.le_refl _) _
 have hp : RnF (w.alloc (.cells (nodeC 1 0 word (.slice none 0 0)) 121)) (fun x => ¬ K x ∧ x ≠ h ∧ some x ≠ (Value.slice A pts.length c).ownBlock) (.gap word pl d) [w.heap.size] (.pointer (some ⟨w.heap.size, 0, none⟩)) :=
  ⟨w.heap.size, rfl, rfl, ⟨fun hk => Nat.lt_irrefl _ (R.inK _ hk), fun e => by have := hb.blk.lt; omega, fun e => by have := hb.row_lt _ e.symm; omega⟩, Blk.new _ _ _⟩
 have hdj : ∀ x ∈ [w.heap.size], x ∉ fps := fun x hx hf => by
  simp only [List.mem_singleton] at hx
  subst hx
  exact Nat.lt_irrefl _ (RnsF.fp _ _ _ hb.parts _ hf).2
 have hk0 := Kept.below hd R.inK
 have hz : (w.alloc (.cells (nodeC 1 0 word (.slice none 0 0)) 121)).heap.size = w.heap.size + 1 := by simp
 obtain ⟨h1, h2, h3, h4, h5⟩ := node_push (R.below hd) (hb.below hd) ⟨_, hp, by simp, hdj⟩ hown hgrow (by rw [hz]; exact hat)
 exact ⟨h1, h2, h3, ⟨Nat.le_trans hk0.size h4.size, fun x hx => (h4.same x hx).trans (hk0.same x hx), hk0.calm.trans h4.calm⟩, h5⟩
set_option maxHeartbeats 8000000 in
set_option maxRecDepth 100000 in
theorem rwant_walk (b : Nat) (X : Txq s T) (R : Rdq w K g s T Ar c0 n i cut) (hb : Bn w K h kind pts) (word : Bs) (hl : pts.length ≤ 50000000) :
  Calls Tryz.prog 92 #[.pointer (some ⟨g, 0, none⟩), .pointer (some ⟨h, 0, none⟩), .string ⟨word.toArray⟩] w (StD w K g h kind s T Ar c0 n cut (Tr.thn (pts, i) (Tr.wantP s T b word))) := by
 obtain ⟨i0, ji, jz0, jz1, jz2⟩ := info_parts infoRN
 have his := ris_walk X R word
 have HT : Hid (Tr.isP s T [word] i = true → Tr.thn (pts, i) (Tr.wantP s T b word) = Tr.thn (pts, i) (Tr.takeP s T b)) := fun h => by
  unfold Tr.thn
  dsimp only
  unfold Tr.wantP
  rw [if_pos h]
 have HF : Hid (Tr.isP s T [word] i = false → Tr.thn (pts, i) (Tr.wantP s T b word) = (pts ++ [.gap word (Tr.placeP s T b i) false], i)) := fun h => by
  unfold Tr.thn
  dsimp only
  unfold Tr.wantP
  rw [if_neg (by rw [h]; simp)]
  rfl
 generalize Tr.thn (pts, i) (Tr.wantP s T b word) = r at *
 go_enter Tryz.func92, Tryz.ntmps92
 go_wp2_with fail
 refine his.mono ?_
 clear his
 rintro e w2 ⟨rfl, hd⟩
 have hA := Kept.aft (Kept.below hd R.inK) g
 have R := R.below hd
 have hb := hb.below hd
 clear hd
 generalize Tr.isP s T [word] i = v at *
 cases v with
 | true =>
  have HR := Lib.hid (HT.out rfl)
  clear HT HF
  have htk := rtake_walk b X R hb hl
  go_wp2_with fail
  refine htk.mono ?_
  clear htk hb R
  intro e w3 h3
  obtain ⟨rfl, hA3, R3, hB3⟩ := h3
  go_wp2_with fail
  go_end0
  rw [HR.out]
  exact ⟨rfl, hA.trans hA3, R3, hB3⟩
 | false =>
  have HR := Lib.hid (HF.out rfl)
  clear HT HF
  obtain ⟨fps, A, c, vs, hb⟩ := hb
  have o1 := hb.blk.cell 3
  simp [nodeC] at o1
  have hhl := hb.blk.lt
  go_wp2_with (at_builtin; refine wpList_append_lies _ rfl _ _ 66 rfl 0 33 i0 _ 1 8 Tryz.underlying66 ji jz0 jz1 jz2 rfl (by omega) (.slice A pts.length c) pts.length vs rfl ((hb.own.alloc (.cells #[.int .i64 1, .int .i64 0, .string ⟨word.toArray⟩, .slice none 0 0, .int .i64 0, .int .i64 0, .int .i64 0, .int .i64 0, .bool false] 121)).alloc (.cells #[.pointer (some ⟨w2.heap.size, 0, none⟩)] 33)) ⟨w2.heap.size + 1, 0, none⟩ 1 1 [.pointer (some ⟨w2.heap.size, 0, none⟩)] rfl rfl (World.news_of_block (lit2_new w2 _ _)) (by simp [Value.oneCell']) (by omega) (by unfold maxLen; omega) (by omega) (Nat.zero_le _) (w2.heap.size + 1 + 1) (by simp) ?_; intro gg cap' w5 hown5 hgrow hat hlt5; have hpu := rmiss_push (word := word) (pl := Tr.placeP s T b i) (d := false) R hb hown5 hgrow hat; obtain ⟨b1, bf, hB, hk, R5⟩ := hpu)
  go_end0
  rw [HR.out]
  exact ⟨rfl, hA.trans (hk.aft g), R5, hB⟩
theorem tr_is3 (s : Bs) (T : List Tk) (x y z : Bs) (i : Nat) : Tr.isP s T [x, y, z] i = (Tr.isP s T [x] i || Tr.isP s T [y] i || Tr.isP s T [z] i) := by
 unfold Tr.isP
 generalize (Tr.kindP T (Tr.nextP T i) == 4 || Tr.kindP T (Tr.nextP T i) == 7) = a
 simp only [List.contains_cons, List.contains_nil, Bool.or_false]
 cases a <;> simp [Bool.or_assoc]
theorem tr_is2 (s : Bs) (T : List Tk) (x y : Bs) (i : Nat) : Tr.isP s T [x, y] i = (Tr.isP s T [x] i || Tr.isP s T [y] i) := by
 unfold Tr.isP
 generalize (Tr.kindP T (Tr.nextP T i) == 4 || Tr.kindP T (Tr.nextP T i) == 7) = a
 simp only [List.contains_cons, List.contains_nil, Bool.or_false]
 cases a <;> simp
set_option maxHeartbeats 8000000 in
set_option maxRecDepth 100000 in
theorem rname_walk (b : Nat) (X : Txq s T) (R : Rdq w K g s T Ar c0 n i cut) (hb : Bn w K h kind pts) (hl : pts.length ≤ 50000000) :
  Calls Tryz.prog 93 #[.pointer (some ⟨g, 0, none⟩), .pointer (some ⟨h, 0, none⟩)] w (StD w K g h kind s T Ar c0 n cut (Tr.thn (pts, i) (Tr.nameP s T b))) := by
 obtain ⟨i0, ji, jz0, jz1, jz2⟩ := info_parts infoRN
 have his := rkindn_walk X R
 have HT : Hid (Tr.kindP T (Tr.nextP T i) = 3 → Tr.thn (pts, i) (Tr.nameP s T b) = Tr.thn (pts, i) (Tr.takeP s T b)) := fun h => by
  unfold Tr.thn
  dsimp only
  unfold Tr.nameP
  rw [if_pos (by rw [h]; rfl)]
 have HF : Hid (¬ Tr.kindP T (Tr.nextP T i) = 3 → Tr.thn (pts, i) (Tr.nameP s T b) = (pts ++ [.gap Tr.sName (Tr.placeP s T b i) false], i)) := fun h => by
  unfold Tr.thn
  dsimp only
  unfold Tr.nameP
  rw [if_neg (by simpa using h)]
  rfl
 generalize Tr.thn (pts, i) (Tr.nameP s T b) = r at *
 generalize Tr.kindP T (Tr.nextP T i) = kd at *
 go_enter Tryz.func93, Tryz.ntmps93
 go_wp2_with fail
 refine his.mono ?_
 clear his
 rintro e w2 ⟨rfl, rfl⟩
 by_cases k3 : kd = 3
 ·have HR := Lib.hid (HT.out k3)
  clear HT HF
  subst k3
  have htk := rtake_walk b X R hb hl
  go_wp2_with fail
  refine htk.mono ?_
  clear htk hb R
  intro e w3 h3
  obtain ⟨rfl, hA3, R3, hB3⟩ := h3
  go_wp2_with fail
  go_end0
  rw [HR.out]
  exact ⟨rfl, hA3, R3, hB3⟩
 ·have HR := Lib.hid (HF.out k3)
  have e3 : ((kd : Int) == 3) = false := by simp; omega
  clear HT HF k3
  obtain ⟨fps, A, c, vs, hb⟩ := hb
  have o1 := hb.blk.cell 3
  simp [nodeC] at o1
  have hhl := hb.blk.lt
  go_wp2_with (at_builtin; refine wpList_append_lies _ rfl _ _ 66 rfl 0 33 i0 _ 1 8 Tryz.underlying66 ji jz0 jz1 jz2 rfl (by omega) (.slice A pts.length c) pts.length vs rfl ((hb.own.alloc (.cells #[.int .i64 1, .int .i64 0, .string ⟨#[110, 97, 109, 101]⟩, .slice none 0 0, .int .i64 0, .int .i64 0, .int .i64 0, .int .i64 0, .bool false] 121)).alloc (.cells #[.pointer (some ⟨w2.heap.size, 0, none⟩)] 33)) ⟨w2.heap.size + 1, 0, none⟩ 1 1 [.pointer (some ⟨w2.heap.size, 0, none⟩)] rfl rfl (World.news_of_block (lit2_new w2 _ _)) (by simp [Value.oneCell']) (by omega) (by unfold maxLen; omega) (by omega) (Nat.zero_le _) (w2.heap.size + 1 + 1) (by simp) ?_; intro gg cap' w5 hown5 hgrow hat hlt5; have hpu := rmiss_push (word := Tr.sName) (pl := Tr.placeP s T b i) (d := false) R hb hown5 hgrow hat; obtain ⟨b1, bf, hB, hk, R5⟩ := hpu)
  go_end0
  rw [HR.out]
  exact ⟨rfl, hk.aft g, R5, hB⟩
set_option maxHeartbeats 4000000 in
set_option maxRecDepth 100000 in
theorem rstarts_walk (X : Txq s T) (R : Rdq w K g s T Ar c0 n i cut) :
  Calls Tryz.prog 89 #[.pointer (some ⟨g, 0, none⟩)] w fun e w' => e = .returned (.bool (Tr.startP s T i)) ∧ Below w.heap.size w w' := by
 have hu := ris_walk X R Tr.sUse
 have HP : Hid (Tr.startP s T i = (Tr.isP s T [Tr.sUse] i || Tr.isP s T [Tr.sPub] i || Tr.isP s T [Tr.sDef] i)) := tr_is3 s T _ _ _ i
 generalize Tr.startP s T i = v at *
 have hp := fun w' (hd : Below w.heap.size w w') => ris_walk X (R.below hd) Tr.sPub
 have hf := fun w' (hd : Below w.heap.size w w') => ris_walk X (R.below hd) Tr.sDef
 clear R X
 generalize Tr.isP s T [Tr.sUse] i = v1 at *
 generalize Tr.isP s T [Tr.sPub] i = v2 at *
 generalize Tr.isP s T [Tr.sDef] i = v3 at *
 go_enter Tryz.func89, Tryz.ntmps89
 go_wp2_with fail
 refine hu.mono ?_
 clear hu
 rintro e w1 ⟨rfl, hd1⟩
 have hp := hp w1 hd1
 go_wp2_with fail
 refine hp.mono ?_
 clear hp
 rintro e w2 ⟨rfl, hd2⟩
 have hd2 := hd1.trans (hd2.mono hd1.size)
 have hf := hf w2 hd2
 go_wp2_with fail
 refine hf.mono ?_
 clear hf
 rintro e w3 ⟨rfl, hd3⟩
 have hd3 := hd2.trans (hd3.mono hd2.size)
 clear hd1 hd2
 cases v1 <;> cases v2 <;> cases v3 <;>
 ·go_wp2_with fail
  go_ret
  exact ⟨by rw [HP.out]; rfl, hd3⟩
end
theorem take_calm (s : Bs) (T : List Tk) (b i : Nat) : Tr.deepsB (Tr.takeP s T b i).1 = false := leaves_calm s T b i _
theorem want_calm (s : Bs) (T : List Tk) (b i : Nat) (x : Bs) : Tr.deepsB (Tr.wantP s T b x i).1 = false := by
 unfold Tr.wantP
 split
 ·exact take_calm s T b i
 ·rfl
theorem name_calm (s : Bs) (T : List Tk) (b i : Nat) : Tr.deepsB (Tr.nameP s T b i).1 = false := by
 unfold Tr.nameP
 split
 ·exact take_calm s T b i
 ·rfl
structure StQ (w0 : World) (K : Nat → Prop) (g h kind : Nat) (s : Bs) (T : List Tk) (Ar : Option Addr) (c0 n i cc : Nat) (c1 : Bool) (st : Tr.St) (w : World) : Prop where
 A : Aft K g w0 w
 R : Rdq w K g s T Ar c0 n st.2 (c1 || Tr.deepsB st.1)
 B : Bn w K h kind st.1
 ok : Tr.StOk T i cc st
section
variable {w0 w w' : World} {K : Nat → Prop} {g h kind : Nat} {s : Bs} {T : List Tk} {Ar : Option Addr} {c0 n i cc d : Nat} {c1 : Bool} {st : Tr.St} {f : Nat → Tr.St} {e : Ending}
theorem StQ.len (S : StQ w0 K g h kind s T Ar c0 n i cc c1 st w) (X : Txq s T) (hc : cc ≤ 1000) : st.1.length ≤ 10000000 := by
 have h1 := S.ok.2.2
 have h2 := S.ok.2.1
 have := X.hT
 omega
theorem StQ.step (S : StQ w0 K g h kind s T Ar c0 n i cc c1 st w) (hf : Tr.Adv T f d) (he : StD w K g h kind s T Ar c0 n ((c1 || Tr.deepsB st.1) || Tr.deepsB (f st.2).1) (Tr.thn st f) e w') : e = .returned (.tuple #[]) ∧ StQ w0 K g h kind s T Ar c0 n i (cc + d) c1 (Tr.thn st f) w' :=
 ⟨he.1, S.A.trans he.2.1, by have := he.2.2.1; rwa [Bool.or_assoc, ← Tr.deeps_app] at this, he.2.2.2, S.ok.thn hf⟩
theorem StQ.calm (S : StQ w0 K g h kind s T Ar c0 n i cc c1 st w) (hf : Tr.Adv T f d) (hc : Tr.deepsB (f st.2).1 = false) (he : StD w K g h kind s T Ar c0 n (c1 || Tr.deepsB st.1) (Tr.thn st f) e w') : e = .returned (.tuple #[]) ∧ StQ w0 K g h kind s T Ar c0 n i (cc + d) c1 (Tr.thn st f) w' :=
 S.step hf (by rw [hc, Bool.or_false]; exact he)
theorem StQ.below (S : StQ w0 K g h kind s T Ar c0 n i cc c1 st w) (hd : Below w.heap.size w w') : StQ w0 K g h kind s T Ar c0 n i cc c1 st w' :=
 ⟨S.A.trans (Kept.aft (Kept.below hd S.R.inK) g), S.R.below hd, S.B.below hd, S.ok⟩
theorem StQ.mono (S : StQ w0 K g h kind s T Ar c0 n i cc c1 st w) (hd : cc ≤ d) : StQ w0 K g h kind s T Ar c0 n i d c1 st w := ⟨S.A, S.R, S.B, S.ok.mono hd⟩
theorem StQ.turned (S : StQ w0 K g h kind s T Ar c0 n i cc c1 st w) (k : Nat) : StQ w0 K g h k s T Ar c0 n i cc c1 st (w.setCell ⟨h, 0, none⟩ (.int .i64 (k : Int))) := by
 have hk : Kept K w (w.setCell ⟨h, 0, none⟩ (.int .i64 (k : Int))) := ⟨by simp [World.setCell], fun x hx => Below.heap_setCell w ⟨h, 0, none⟩ _ x fun e => S.B.nk (by have e2 : x = h := e; rw [← e2]; exact hx), Calm.set w _ _⟩
 exact ⟨S.A.trans (hk.aft g), S.R.kept hk, S.B.turned k, S.ok⟩
theorem want_q (b : Nat) (X : Txq s T) (S : StQ w0 K g h kind s T Ar c0 n i cc c1 st w) (word : Bs) (hc : cc ≤ 1000) :
  Calls Tryz.prog 92 #[.pointer (some ⟨g, 0, none⟩), .pointer (some ⟨h, 0, none⟩), .string ⟨word.toArray⟩] w fun e w' => e = .returned (.tuple #[]) ∧ StQ w0 K g h kind s T Ar c0 n i (cc + 1) c1 (Tr.thn st (Tr.wantP s T b word)) w' :=
 (rwant_walk b X S.R S.B word (by have := S.len X hc; omega)).mono fun _ _ he => S.calm (Tr.want_adv s T b word) (want_calm s T b _ word) he
theorem take_q (b : Nat) (X : Txq s T) (S : StQ w0 K g h kind s T Ar c0 n i cc c1 st w) (hc : cc ≤ 1000) :
  Calls Tryz.prog 91 #[.pointer (some ⟨g, 0, none⟩), .pointer (some ⟨h, 0, none⟩)] w fun e w' => e = .returned (.tuple #[]) ∧ StQ w0 K g h kind s T Ar c0 n i (cc + 0) c1 (Tr.thn st (Tr.takeP s T b)) w' :=
 (rtake_walk b X S.R S.B (by have := S.len X hc; omega)).mono fun _ _ he => S.calm (Tr.take_adv s T b) (take_calm s T b _) he
theorem name_q (b : Nat) (X : Txq s T) (S : StQ w0 K g h kind s T Ar c0 n i cc c1 st w) (hc : cc ≤ 1000) :
  Calls Tryz.prog 93 #[.pointer (some ⟨g, 0, none⟩), .pointer (some ⟨h, 0, none⟩)] w fun e w' => e = .returned (.tuple #[]) ∧ StQ w0 K g h kind s T Ar c0 n i (cc + 1) c1 (Tr.thn st (Tr.nameP s T b)) w' :=
 (rname_walk b X S.R S.B (by have := S.len X hc; omega)).mono fun _ _ he => S.calm (Tr.name_adv s T b) (name_calm s T b _) he
theorem is_q (X : Txq s T) (S : StQ w0 K g h kind s T Ar c0 n i cc c1 st w) (word : Bs) :
  Calls Tryz.prog 90 #[.pointer (some ⟨g, 0, none⟩), .string ⟨word.toArray⟩] w fun e w' => e = .returned (.bool (Tr.isP s T [word] st.2)) ∧ StQ w0 K g h kind s T Ar c0 n i cc c1 st w' :=
 (ris_walk X S.R word).mono fun _ _ ⟨h1, h2⟩ => ⟨h1, S.below h2⟩
theorem rthn_nil (i : Nat) (f : Nat → Tr.St) : Tr.thn ([], i) f = f i := by unfold Tr.thn; simp
theorem node_q {cut : Bool} (R : Rdq w K g s T Ar c0 n i cut) (kind : Nat) :
  StQ w (Old w) g w.heap.size kind s T Ar c0 n i 0 cut ([], i) (w.alloc (.cells #[.int .i64 (kind : Int), .int .i64 0, .string ⟨#[]⟩, .slice none 0 0, .int .i64 0, .int .i64 0, .int .i64 0, .int .i64 0, .bool false] 121)) := by
 have hd : Below w.heap.size w (w.alloc (.cells #[.int .i64 (kind : Int), .int .i64 0, .string ⟨#[]⟩, .slice none 0 0, .int .i64 0, .int .i64 0, .int .i64 0, .int .i64 0, .bool false] 121)) := (Below.refl _ _).alloc (Nat.le_refl _) _
 refine ⟨Kept.aft (Kept.below hd (Old.in_ w)) g, ?_, Bn.new (Old.in_ w) kind, Nat.le_refl _, R.hi, by simp⟩
 have := R.old.below hd
 rwa [← Bool.or_false cut] at this
end
set_option maxHeartbeats 8000000 in
set_option maxRecDepth 100000 in
theorem rparams_walk {w : World} {K : Nat → Prop} {g : Nat} {s : Bs} {T : List Tk} {Ar : Option Addr} {c0 n i : Nat} {cut : Bool} {h kind : Nat} {pts : List Tr.PT} (b : Nat) (X : Txq s T) (R : Rdq w K g s T Ar c0 n i cut) (hb : Bn w K h kind pts) (hl : pts.length ≤ 40000000) :
  Calls Tryz.prog 94 #[.pointer (some ⟨g, 0, none⟩), .pointer (some ⟨h, 0, none⟩)] w (StD w K g h kind s T Ar c0 n (cut || Tr.deepsB [(Tr.paramsP s T b i).1]) (Tr.thn (pts, i) fun i => Tr.oneP (Tr.paramsP s T b i))) := by
 obtain ⟨i0, ji, jz0, jz1, jz2⟩ := info_parts infoRN
 have S : StQ w (Old w) g w.heap.size 6 s T Ar c0 n i 0 cut ([], i) (w.alloc (.cells #[.int .i64 6, .int .i64 0, .string ⟨#[]⟩, .slice none 0 0, .int .i64 0, .int .i64 0, .int .i64 0, .int .i64 0, .bool false] 121)) := node_q R 6
 obtain ⟨st, hst0⟩ : ∃ st, st = Tr.wantP s T b [40] i := ⟨_, rfl⟩
 obtain ⟨st2, hst2⟩ : ∃ st2, st2 = (if Tr.isP s T [[41]] st.2 then st else Tr.manyP s T b (Tr.nameP s T b) (T.length + 1) (Tr.thn st (Tr.nameP s T b))) := ⟨_, rfl⟩
 obtain ⟨st3, hst3⟩ : ∃ st3, st3 = Tr.thn st2 (Tr.wantP s T b [41]) := ⟨_, rfl⟩
 have HPP : Hid (Tr.paramsP s T b i = (.branch 6 (Tr.placeP s T b i) st3.1, st3.2)) := by show _ = _; rw [hst3, hst2, hst0]; rfl
 have HP : Hid ((Tr.thn (pts, i) fun i => Tr.oneP (Tr.paramsP s T b i)) = (pts ++ [.branch 6 (Tr.placeP s T b i) st3.1], st3.2)) := by
  show _ = _
  unfold Tr.thn Tr.oneP
  dsimp only
  rw [HPP.out]
 have HD : Hid ((cut || Tr.deepsB [(Tr.paramsP s T b i).1]) = (cut || Tr.deepsB st3.1)) := by
  show _ = _
  rw [HPP.out]
  simp only [Tr.deepsB, Tr.deepB, Bool.or_false]
 rw [HP.out, HD.out]
 clear HP HPP HD
 generalize Tr.placeP s T b i = pl at *
 have Hst0 := Lib.hid hst0
 have Hst3 := Lib.hid hst3
 have HT : Hid (Tr.isP s T [[41]] st.2 = true → st = st2) := fun h => by rw [hst2, if_pos h]
 have HF : Hid (Tr.isP s T [[41]] st.2 = false → Tr.manyP s T b (Tr.nameP s T b) (T.length + 1) (Tr.thn st (Tr.nameP s T b)) = st2) := fun h => by rw [hst2, if_neg (by rw [h]; simp)]
 clear hst0 hst2 hst3
 obtain ⟨hp0, hhp0⟩ : ∃ x, x = w.heap.size := ⟨_, rfl⟩
 rw [← hhp0] at S
 obtain ⟨fps, A, c, vs, hb⟩ := hb
 have h0 := hb.blk.lt
 have hr := hb.row_lt
 have hK0 := R.inK
 go_enter Tryz.func94, Tryz.ntmps94
 go_upto_region 1 with fail
 rw [← hhp0]
 clear hhp0
 generalize w.alloc (.cells #[.int .i64 6, .int .i64 0, .string ⟨#[]⟩, .slice none 0 0, .int .i64 0, .int .i64 0, .int .i64 0, .int .i64 0, .bool false] 121) = w1 at *
 have hwt := want_q b X S [40] (by omega)
 rw [rthn_nil, ← Hst0.out] at hwt
 clear S
 go_wp2_with fail
 refine hwt.mono ?_
 clear hwt
 rintro e w2 ⟨rfl, S⟩
 have his := is_q X S [41]
 clear S
 generalize Tr.isP s T [[41]] st.2 = vb at *
 go_wp2_with fail
 refine his.mono ?_
 clear his
 rintro e w3 ⟨rfl, S⟩
 go_upto_if 15 with fail
 go_cut [15] (fun _ wc => StQ w (Old w) g hp0 6 s T Ar c0 n i 2 cut st2 wc)
 case first =>
  cases vb with
  | true =>
   have hst := HT.out rfl
   subst hst
   go_wp2_with fail
   go_meet
   exact S.mono (by omega)
  | false =>
   have Hst := Lib.hid (HF.out rfl)
   clear HT HF
   have hnm := name_q b X S (by omega)
   clear S
   go_wp2_with fail
   refine hnm.mono ?_
   clear hnm
   rintro e w4 ⟨rfl, S⟩
   have his := is_q X S [44]
   go_wp2_with fail
   refine his.mono ?_
   clear his
   rintro e w6 ⟨rfl, S⟩
   go_wp2_with fail
   go_loopg [6] (T.length - (Tr.thn st (Tr.nameP s T b)).2) (fun q v wr => ∃ y : Tr.St, v = .bool (Tr.isP s T [[44]] y.2) ∧ (Tr.thn st (Tr.nameP s T b)).2 ≤ y.2 ∧ T.length - y.2 ≤ q ∧ Hid (Tr.manyP s T b (Tr.nameP s T b) (T.length + 1) y = st2) ∧ StQ w (Old w) g hp0 6 s T Ar c0 n i 2 cut y wr)
   case atStart => exact ⟨_, rfl, Nat.le_refl _, Nat.le_refl _, Hst, S⟩
   case round =>
    clear S Hst
    obtain ⟨y, rfl, hy1, hq, Hy, S⟩ := hrel
    have hyT := S.ok.2.1
    have hna := Tr.name_adv s T b
    have Hgo : Hid (Tr.isP s T [[44]] y.2 = true → Tr.manyP s T b (Tr.nameP s T b) (T.length + 1) (Tr.roundP s T b (Tr.nameP s T b) y) = st2 ∧ y.2 < (Tr.roundP s T b (Tr.nameP s T b) y).2 ∧ Tr.StOk T i 2 (Tr.roundP s T b (Tr.nameP s T b) y)) := fun h => by
     have h1 := Tr.round_adv s T b hna y hyT (Tr.is_lt s T h)
     refine ⟨by rw [← Tr.many_step s T b hna y hyT h]; exact Hy.out, h1.1, by have := S.ok.1; omega, h1.2.1, by have := S.ok.2.2; have := S.ok.1; omega⟩
    have Hst : Hid (Tr.isP s T [[44]] y.2 = false → y = st2) := fun h => by rw [← Tr.many_stop s T b (Tr.nameP s T b) y h]; exact Hy.out
    generalize Tr.isP s T [[44]] y.2 = vc at *
    cases vc with
    | true =>
     obtain ⟨hg1, hg2, hg3⟩ := Hgo.out rfl
     have Hg1 := Lib.hid hg1
     clear Hgo Hst Hy hg1 hna
     have htk := take_q b X S (by omega)
     clear S
     go_wp2_with fail
     refine htk.mono ?_
     clear htk
     rintro e w6 ⟨rfl, S⟩
     have hnm := name_q b X S (by omega)
     clear S
     go_wp2_with fail
     refine hnm.mono ?_
     clear hnm
     rintro e w7 ⟨rfl, S⟩
     have hS : StQ w (Old w) g hp0 6 s T Ar c0 n i 2 cut (Tr.roundP s T b (Tr.nameP s T b) y) w7 := ⟨S.A, S.R, S.B, hg3⟩
     clear S
     have his := is_q X hS [44]
     clear hS
     go_wp2_with fail
     refine his.mono ?_
     clear his
     rintro e w8 ⟨rfl, S⟩
     go_wp2_with fail
     go_roundg (T.length - (Tr.roundP s T b (Tr.nameP s T b) y).2)
     case rel => exact ⟨_, rfl, by omega, Nat.le_refl _, Hg1, S⟩
     case measure => have := hg3.2.1; omega
    | false =>
     have hst := Hst.out rfl
     clear Hgo Hst Hy hna
     subst hst
     go_wp2_with fail
     go_meet
     exact S
 case rest =>
  clear HT HF S
  have S := hcut
  clear hcut
  have hwt := want_q b X S [41] (by omega)
  rw [← Hst3.out] at hwt
  clear S
  go_wp2_with fail
  refine hwt.mono ?_
  clear hwt
  rintro e w4 ⟨rfl, S⟩
  have hpt : Rn w4 (fun x => ¬ Old w x) (.branch 6 pl st3.1) (.pointer (some ⟨hp0, 0, none⟩)) := S.B.part pl
  have hp := Rnew.of hpt hK0 hb
  have hb := hb.aft S.A R.kg (fun _ hx => hx)
  have hA := S.A.old hK0
  have R := R.from_old S.R hA
  clear S hpt h0 hr
  have o1 := hb.blk.cell 3
  simp [nodeC] at o1
  have hhl := hb.blk.lt
  go_wp2_with (at_builtin; refine wpList_append_lies _ rfl _ _ 66 rfl 0 33 i0 _ 1 8 Tryz.underlying66 ji jz0 jz1 jz2 rfl (by omega) (.slice A pts.length c) pts.length vs rfl (hb.own.alloc (.cells #[.pointer (some ⟨hp0, 0, none⟩)] 33)) ⟨w4.heap.size, 0, none⟩ 1 1 [.pointer (some ⟨hp0, 0, none⟩)] rfl rfl (World.news_of_block (heap_alloc_new w4 _)) (by simp [Value.oneCell']) (by omega) (by unfold maxLen; omega) (by omega) (Nat.zero_le _) (w4.heap.size + 1) (by simp) ?_; intro gg cap' w5 hown5 hgrow hat hlt5; obtain ⟨b1, bf, hB, hk, R5⟩ := node_push R hb hp hown5 hgrow hat)
  go_end0
  exact ⟨rfl, hA.trans (hk.aft g), R5, hB⟩
end Go.Proofs.YtalklmeejdmifaaGreatDoor
