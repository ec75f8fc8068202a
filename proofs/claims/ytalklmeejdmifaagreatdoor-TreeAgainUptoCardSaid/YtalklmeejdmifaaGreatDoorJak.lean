/-
  JOINED of the texts ZL ZD
-/
import Derived.Test.YtalklmeejdmifaaGreatDoorJaj
namespace Go.Proofs.YtalklmeejdmifaaGreatDoor
open Go.RowKit
def Kw (w0 : World) (rk : Option Nat) : Nat → Prop := fun x => x < w0.heap.size ∧ some x ≠ rk
def mvB (mv : Int) (k : Tr.Kd) : Tr.Kd := ⟨k.part, ((k.base : Int) + mv).toNat, k.first, k.last⟩
def posO (os : List Tr.Kd) (p i : Nat) : Nat → Nat
 | 0 => i
 | j + 1 => (os[p + j]?.map (·.last)).getD 0
structure OldK (s : Bs) (T : List Tk) (os : List Tr.Kd) (mv : Int) (st : Nat → Bool) (cn : Nat → Nat) : Prop where
 up : ∀ i j (hi : i < os.length) (hj : j < os.length), i < j → os[i].first < os[j].first
 fl : ∀ j (h : j < os.length), os[j].first ≤ os[j].last ∧ os[j].last ≤ T.length
 nx : ∀ j (h : j + 1 < os.length), os[j].last = os[j + 1].first
 hit : ∀ j (h : j < os.length), st os[j].first = true
 miss : ∀ i, (∀ j (h : j < os.length), os[j].first ≠ i) → st i = false
 stay : ∀ j (h : j < os.length), Tr.kidsP s T (T.length + 1) os[j].first = ((os.drop j).map (mvB mv), (os[os.length - 1]?.map (·.last)).getD 0)
 base : ∀ j (h : j < os.length), 0 ≤ (os[j].base : Int) + mv ∧ (os[j].base : Int) + mv ≤ 1000000000
 stp : ∀ i, i ≤ T.length → Tr.nextP T i < T.length → st i = false → cn i = cn (Tr.kidP s T i).2 + 1
 sto : ∀ i, ¬ (Tr.nextP T i < T.length ∧ st i = false) → cn i = 0
structure RdK (rk : Option Nat) (K P : Nat → Prop) (g gt d : Nat) (A : Option Addr) (c : Nat) (s : Bs) (T : List Tk) (w0 : World) (i : Nat) (ks : List Tr.Kd) (ts : List Tr.PT) (w : World) : Prop where
 F : Aft (Kw w0 rk) gt w0 w
 R : ∃ b n, Rdr w K g gt s T b n i
 O : ∃ Av cv vs At ct us, OTk w K P gt d A T.length c ks Av cv vs ts At ct us
 row : RowF w (fun x => K x ∧ x ≠ g ∧ x ≠ gt) A (tksC T)
section
variable {w0 w w' : World} {rk : Option Nat} {K P : Nat → Prop} {g gt d : Nat} {A : Option Addr} {c : Nat} {s : Bs} {T : List Tk} {i : Nat} {ks : List Tr.Kd} {ts : List Tr.PT}
theorem RdK.below (S : RdK rk K P g gt d A c s T w0 i ks ts w) (hd : Below w.heap.size w w') : RdK rk K P g gt d A c s T w0 i ks ts w' := by
 obtain ⟨b, n, R⟩ := S.R
 obtain ⟨Av, cv, vs, At, ct, us, O⟩ := S.O
 exact ⟨S.F.trans ⟨hd.size, fun x hx _ => hd.block x (Nat.lt_of_lt_of_le hx.1 S.F.size), Calm.below hd⟩, ⟨b, n, R.below hd⟩, ⟨Av, cv, vs, At, ct, us, O.below hd⟩, S.row.keep hd.size fun x hx hl => ⟨hd.block x hl, hx⟩⟩
theorem RdK.drewN (S : RdK rk K P g gt d A c s T w0 i ks ts w) (m : Nat) : RdK rk K P g gt d A c s T w0 i ks ts (w.drewN m) := S.below (below_drewN (Below.refl _ _) m)
theorem RdK.at_ {j : Nat} (S : RdK rk K P g gt d A c s T w0 i ks ts w) (X : Txts s T) (hg : w0.heap.size ≤ g) (hgt : gt ≠ g) (hPg : ∀ x, P x → x ≠ g) (hij : i ≤ j) (hj : j ≤ T.length) : RdK rk K P g gt d A c s T w0 j ks ts (w.setCell ⟨g, 1, none⟩ (.int .i64 (j : Int))) := by
 obtain ⟨b, n, R⟩ := S.R
 obtain ⟨Av, cv, vs, At, ct, us, O⟩ := S.O
 have hA := (Aft.refl (Old w) g w).set 1 (.int .i64 (j : Int))
 exact ⟨S.F.trans ⟨hA.size, fun x hx _ => Below.heap_setCell w ⟨g, 1, none⟩ _ x (by have := hx.1; show x ≠ g; omega), hA.calm⟩, ⟨b, n, R.at_ X hij hj⟩, ⟨Av, cv, vs, At, ct, us, O.aft hA R.rs.tr.kg hgt hPg⟩, S.row.keep hA.size fun x hx _ => ⟨Below.heap_setCell w ⟨g, 1, none⟩ _ x hx.2.1, hx⟩⟩
theorem KdsF.drop {F : Nat → Prop} : ∀ {l : List Tr.Kd} {vs : List Value} (p : Nat), KdsF w F l vs → KdsF w F (l.drop p) (vs.drop (p * 4))
 | l, vs, 0, h => by simpa using h
 | [], vs, p + 1, h => by
  have : vs = [] := h
  subst this
  simp [KdsF]
 | k :: l, vs, p + 1, h => by
  obtain ⟨q, vs', rfl, _, hl⟩ := h
  rw [Nat.succ_mul]
  exact KdsF.drop p hl
set_option maxHeartbeats 16000000 in
set_option maxRecDepth 100000 in
theorem read_any {os : List Tr.Kd} {ovs : List Value} {Ao : Option Addr} {co fr N : Nat} {mv : Int} {st : Nat → Bool} {cn : Nat → Nat} {Av : Option Addr} {cv : Nat} {vs : List Value} (X : Txts s T) (hO : OldK s T os mv st cn)
  (hB : Blk w gt 87 #[.pointer (some ⟨d, 0, none⟩), .slice A T.length c, .slice Av ks.length cv, .slice none 0 0]) (hown : w.ownsRow 0 92 4 (.slice Av ks.length cv) ks.length vs)
  (hks : KdsF w (fun x => x ≠ gt ∧ some x ≠ (Value.slice Av ks.length cv).ownBlock) ks vs) {D : Value} (hD : Blk w d 179 #[.string ⟨s.toArray⟩, D]) (hrow : RowF w (fun x => x ≠ gt ∧ some x ≠ (Value.slice Av ks.length cv).ownBlock) A (tksC T)) (hc : T.length ≤ c)
  (hro : RowF w (fun x => x ≠ gt ∧ some x ≠ (Value.slice Av ks.length cv).ownBlock) Ao ovs) (hos : KdsF w (fun x => x ≠ gt ∧ some x ≠ (Value.slice Av ks.length cv).ownBlock) os ovs) (hco : os.length ≤ co) (hol : os.length ≤ 4194304)
  (hfr : fr ≤ T.length) (hkf : ks.length ≤ fr) (hall : Tr.kidsP s T (T.length + 1) 0 = (ks ++ (Tr.kidsP s T (T.length + 1) fr).1, (Tr.kidsP s T (T.length + 1) fr).2)) (hal : (Tr.kidsP s T (T.length + 1) 0).1.length ≤ T.length) (hN : N = cn fr) :
  Calls Tryz.prog 38 #[.pointer (some ⟨gt, 0, none⟩), .slice Ao os.length co, .int .i64 (fr : Int), .int .i64 mv] w fun e w' => e = .returned (.int .i64 (N : Int)) ∧ Aft (Kw w (Value.slice Av ks.length cv).ownBlock) gt w w' ∧ TreeIs w' (fun _ => True) gt d A c T (Tr.kidsP s T (T.length + 1) 0).1 (Tr.tailP s T (Tr.kidsP s T (T.length + 1) 0).2) := by
 obtain ⟨k0, ki, kz0, kz1, kz2⟩ := info_parts infoKid
 obtain ⟨i0, ji, jz0, jz1, jz2⟩ := info_parts infoPart
 have hdg : d ≠ gt := fun e => by subst e; have := hB.symm.trans hD; injection this with this; injection this with _ this; exact absurd this (by decide)
 have hgl := hB.lt
 have hdl := hD.lt
 have hgr : some gt ≠ (Value.slice Av ks.length cv).ownBlock := own_ne hown hB (by decide)
 have hdr : some d ≠ (Value.slice Av ks.length cv).ownBlock := own_ne hown hD (by decide)
 have hd0 : Below w.heap.size w (w.alloc (.cells #[.pointer (some ⟨gt, 0, none⟩), .int .i64 (fr : Int), .int .i64 0, .int .i64 0] 183)) := (Below.refl _ _).alloc (Nat.le_refl _) _
 obtain ⟨rk, hrk⟩ : ∃ rk, rk = (Value.slice Av ks.length cv).ownBlock := ⟨_, rfl⟩
 have hrl : ∀ q, rk = some q → q < w.heap.size := fun q hq => (hown.lt q (by rw [← hrk]; exact hq)).2
 rw [← hrk] at hgr hdr hks hrow hro hos ⊢
 obtain ⟨g, hg⟩ : ∃ g, g = w.heap.size := ⟨_, rfl⟩
 have HG : Hid (w.heap.size ≤ g) := by show _ ≤ _; omega
 obtain ⟨K, hK⟩ : ∃ K : Nat → Prop, K = fun x => Kw w rk x ∨ x = g := ⟨_, rfl⟩
 obtain ⟨P, hP⟩ : ∃ P : Nat → Prop, P = fun x => x ≠ g ∧ x ≠ gt := ⟨_, rfl⟩
 have HPg : Hid (∀ x, P x → x ≠ g) := fun x hx => by rw [hP] at hx; exact hx.1
 have HPt : Hid (∀ x, P x → x ≠ gt) := fun x hx => by rw [hP] at hx; exact hx.2
 have HP0 : Hid (∀ x, x ≠ g → x ≠ gt → P x) := fun x h1 h2 => by rw [hP]; exact ⟨h1, h2⟩
 have HKw : Hid (∀ x, Kw w rk x → K x) := fun x hx => by rw [hK]; exact .inl hx
 have S : RdK rk K P g gt d A c s T w fr ks [] (w.alloc (.cells #[.pointer (some ⟨gt, 0, none⟩), .int .i64 (fr : Int), .int .i64 0, .int .i64 0] 183)) := by
  have hKg : K g := by rw [hK]; exact .inr rfl
  have hrow1 : RowF (w.alloc (.cells #[.pointer (some ⟨gt, 0, none⟩), .int .i64 (fr : Int), .int .i64 0, .int .i64 0] 183)) (fun x => K x ∧ x ≠ g ∧ x ≠ gt) A (tksC T) := hrow.keep hd0.size fun x hx hl => ⟨hd0.block x hl, HKw.out x ⟨hl, hx.2⟩, by omega, hx.1⟩
  refine ⟨Aft.below hd0 (fun x hx => hx.1), ⟨0, 0, ⟨⟨by rw [hg]; exact Blk.new _ _ _, hKg, HKw.out _ ⟨hgl, hgr⟩, by omega, d, A, c, D, (), _, _, hB.alloc _, HKw.out _ ⟨hdl, hdr⟩, by omega, hD.alloc _, hrow1.keep (Nat.le_refl _) fun x hx _ => ⟨rfl, hx.1, hx.2.1⟩, rfl⟩, fun x hx => ?_, hfr, Nat.zero_le _⟩⟩, ⟨Av, cv, vs, none, 0, [], ⟨hB.alloc _, hown.alloc _, World.ownsRow_nil _ _ _ _, fun q hq hk => ?_, fun q hq => by simp [Value.ownBlock] at hq, ?_, rfl⟩⟩, hrow1⟩
  ·rw [hK] at hx
   simp
   rcases hx with hx | hx
   ·have := hx.1; omega
   ·omega
  ·rw [← hrk] at hq
   rw [hK] at hk
   rcases hk with hk | hk
   ·exact hk.2 hq.symm
   ·have := hrl q hq; omega
  ·rw [← hrk]
   exact KdsF.keep hd0.size (fun x hx hl => ⟨hd0.block x hl, HP0.out x (by omega) hx.1, hx.2, by simp [Value.ownBlock]⟩) _ _ hks
 have hKin : ∀ x, Kw w rk x → x < w.heap.size := fun x hx => hx.1
 have HRo : Hid (RowF w (fun x => Kw w rk x ∧ x ≠ gt) Ao ovs) := hro.keep (Nat.le_refl _) fun x hx hl => ⟨rfl, ⟨hl, hx.2⟩, hx.1⟩
 have Hos : Hid (KdsF w (fun x => Kw w rk x ∧ x ≠ gt) os ovs) := KdsF.keep (Nat.le_refl _) (fun x hx hl => ⟨rfl, ⟨hl, hx.2⟩, hx.1⟩) _ _ hos
 have hovl := KdsF.len hos
 obtain ⟨all, hal0⟩ : ∃ a, a = Tr.kidsP s T (T.length + 1) 0 := ⟨_, rfl⟩
 rw [← hal0] at hall hal ⊢
 have Hk1 : Hid (ks ++ (Tr.kidsP s T (T.length + 1) fr).1 = all.1) := by show _ = _; rw [hall]
 have Hk2 : Hid ((Tr.kidsP s T (T.length + 1) fr).2 = all.2) := by show _ = _; rw [hall]
 have Hal := Lib.hid hal
 have HNN : Hid (0 + cn fr = N) := by show _ = _; omega
 have Hol := Lib.hid hol
 have Hco := Lib.hid hco
 have Hovl := Lib.hid hovl
 clear hB hown hks hD hrow hro hos hd0 hgl hdl hgr hdr hK hP hrk hrl hall hal hal0 hN hol hovl
 go_enter Tryz.func38, Tryz.ntmps38
 go_upto_region 2 with fail
 rw [← hg]
 clear hg
 generalize w.alloc (.cells #[.pointer (some ⟨gt, 0, none⟩), .int .i64 (fr : Int), .int .i64 0, .int .i64 0] 183) = w1 at *
 go_upto_block 0 with fail
 go_cut [10] (fun u wc => u = .int .i64 (N : Int) ∧ RdK rk K P g gt d A c s T w all.2 all.1 [] wc)
 case first =>
  go_wp2_with fail
  go_loopg [1, 10] (T.length) (fun m v u wr => ∃ (i a p : Nat) (ks : List Tr.Kd) (Ao' : Option Addr) (co' : Nat), v = .slice Ao' (os.length - p) co' ∧ u = .int .i64 (a : Int) ∧ T.length - i ≤ m ∧ p ≤ os.length ∧ os.length - p ≤ co' ∧ a ≤ i ∧ ks.length ≤ i ∧ RdK rk K P g gt d A c s T w i ks [] wr ∧ RowF w (fun x => Kw w rk x ∧ x ≠ gt) Ao' (ovs.drop (p * 4)) ∧ Hid (a + cn i = N) ∧ Hid (ks ++ (Tr.kidsP s T (T.length + 1) i).1 = all.1) ∧ Hid ((Tr.kidsP s T (T.length + 1) i).2 = all.2) ∧ Hid (∀ j (h : j < os.length), j < p → os[j].first < i))
  case atStart => exact ⟨fr, 0, 0, ks, Ao, co, rfl, rfl, Nat.sub_le _ _, Nat.zero_le _, Hco.out, Nat.zero_le _, hkf, S, by simpa using HRo.out, HNN, Hk1, Hk2, fun _ _ h => absurd h (by omega)⟩
  case round =>
   clear S Hk1 Hk2 HNN hkf hfr hco
   obtain ⟨i, a, p, ks, Ao', co', rfl, rfl, hm, hp, hpc, hai, hkl, S, hro, HNN, Hk1, Hk2, Hlo⟩ := hrel
   have hS := fun m => S.drewN m
   obtain ⟨b, n, R⟩ := S.R
   have hi := R.hi
   have hnx := fun m => next_walkT (R.drewN m).rs hi (by have := X.hT; omega)
   obtain ⟨Av, cv, vs, At, ct, us, O⟩ := S.O
   have t1 := O.blk.cell 1
   simp at t1
   have hT := X.hT
   by_cases hlt : Tr.nextP T i < T.length
   ·have i1 : ((Tr.nextP T i : Nat) : Int) < (T.length : Int) := by omega
    have hst := Tr.kids_step s T i hi hlt
    have hgt := Tr.kid_gt s T i hi hlt
    have HK1 : Hid ((ks ++ [Tr.kdP s T i]) ++ (Tr.kidsP s T (T.length + 1) (Tr.kidP s T i).2).1 = all.1) := by
     show _ = _
     rw [← Hk1.out, hst, List.append_assoc]
     rfl
    have HK2 : Hid ((Tr.kidsP s T (T.length + 1) (Tr.kidP s T i).2).2 = all.2) := by show _ = _; rw [← Hk2.out, hst]
    have Hstp : Hid (st i = false → a + 1 + cn (Tr.kidP s T i).2 = N) := fun h => by have := hO.stp i hi hlt h; have := HNN.out; omega
    have Hsto : Hid (st i = true → a = N) := fun h => by have := hO.sto i (fun e => by rw [h] at e; exact absurd e.2 (by simp)); have := HNN.out; omega
    have Hgt := Lib.hid hgt
    have Hm := Lib.hid hm
    have Hai := Lib.hid hai
    have Hkl := Lib.hid hkl
    have Hi := Lib.hid hi
    clear hst hgt hlt R O S hm hkl hi hT hai HNN
    generalize Tr.nextP T i = nx at *
    go_wp2_with fail
    go_quiet ((go_at_call 83; exact Calls.quiet_of_same (hnx _)))
    have S := hS nq
    clear hS hnx t1
    generalize wr.drewN nq = w2 at *
    go_upto_block 2 with fail
    go_cut [1] (fun v wc => ∃ (p : Nat) (Ao' : Option Addr) (co' : Nat), v = .slice Ao' (os.length - p) co' ∧ p ≤ os.length ∧ os.length - p ≤ co' ∧ RdK rk K P g gt d A c s T w i ks [] wc ∧ RowF w (fun x => Kw w rk x ∧ x ≠ gt) Ao' (ovs.drop (p * 4)) ∧ Hid (∀ j (h : j < os.length), j < p → os[j].first < i) ∧ Hid (∀ h : p < os.length, i ≤ os[p].first))
    case first =>
     go_wp2_with fail
     go_loopg [1] os.length (fun q v wr => ∃ (p : Nat) (Ao' : Option Addr) (co' : Nat), v = .slice Ao' (os.length - p) co' ∧ p ≤ os.length ∧ os.length - p ≤ co' ∧ os.length - p ≤ q ∧ RdK rk K P g gt d A c s T w i ks [] wr ∧ RowF w (fun x => Kw w rk x ∧ x ≠ gt) Ao' (ovs.drop (p * 4)) ∧ Hid (∀ j (h : j < os.length), j < p → os[j].first < i))
     case atStart => exact ⟨p, Ao', co', rfl, hp, hpc, Nat.sub_le _ _, S, hro, Hlo⟩
     case round =>
      clear S hro Hlo hp hpc
      obtain ⟨p, Ao', co', rfl, hp, hpc, hq, S, hro, Hlo⟩ := hrel
      have hS := fun m => S.drewN m
      obtain ⟨b, n, R⟩ := S.R
      obtain ⟨_, g1, _, _⟩ := R.rs.cells
      by_cases hpl : p < os.length
      ·obtain ⟨q', v0, v1, v2, v3, vp⟩ := (KdsF.drop p Hos.out).at_ (i := 0) (by rw [List.length_drop]; omega)
       obtain ⟨bb, bo, rfl, hFb, _, hcell⟩ := hro (by rw [List.length_drop, Hovl.out]; omega)
       have hge : (os.drop p)[0]'(by rw [List.length_drop]; omega) = os[p] := by rw [List.getElem_drop]; simp
       rw [hge] at v2
       have q2 := (World.cell?_of_block (a := ⟨bb, bo + 2, none⟩) (S.F.oth bb hFb.1 hFb.2)).trans (hcell 2 _ (by simpa using v2))
       have j1 : (0 : Int) < ((os.length - p : Nat) : Int) := by omega
       have j2 : decide (0 < os.length - p) = true := by simp; omega
       have Hq := Lib.hid hq
       have Hpl := Lib.hid hpl
       have Hpc := Lib.hid hpc
       by_cases hlo : os[p].first < i
       ·have d1 : (os[p].first : Int) < (i : Int) := by omega
        have d2 : decide (os[p].first < i) = true := by simpa using hlo
        have Hlo2 : Hid (∀ j (h : j < os.length), j < p + 1 → os[j].first < i) := fun j h hj => by
         rcases Nat.eq_or_lt_of_le (Nat.le_of_lt_succ hj) with e | hj
         ·subst e; exact hlo
         ·exact Hlo.out j h hj
        have Hro2 : Hid (p + 1 < os.length → RowF w (fun x => Kw w rk x ∧ x ≠ gt) (some ⟨bb, bo + 4, none⟩) (ovs.drop ((p + 1) * 4))) := fun hlt hn => by
         obtain ⟨b2, o2, e, h1, h2, h3⟩ := hro (by rw [List.length_drop, Hovl.out]; omega)
         injection e with e
         injection e with e1 e2
         subst e1 e2
         refine ⟨bb, bo + 4, rfl, h1, h2, fun j u hu => ?_⟩
         have := h3 (4 + j) u (by
          rw [List.getElem?_drop] at hu ⊢
          rw [show p * 4 + (4 + j) = (p + 1) * 4 + j by omega]
          exact hu)
         rw [← Nat.add_assoc] at this
         exact this
        have Hro3 : Hid (∀ A', ¬ p + 1 < os.length → RowF w (fun x => Kw w rk x ∧ x ≠ gt) A' (ovs.drop ((p + 1) * 4))) := fun A' hlt hn => by
         rw [List.length_drop, Hovl.out] at hn
         omega
        generalize os[p].first = of_ at *
        clear v0 v1 v2 v3 vp hcell hge hFb hro hlo Hlo hq hpl hpc hp R S
        go_wp2_with fail
        go_quiet (fail)
        have S := hS nq
        clear hS g1 q2 d1 d2
        generalize World.drewN _ nq = w4 at *
        go_upto_region 5 with fail
        have m1 : (1 : Int) ≤ ((os.length - p : Nat) : Int) := by have := Hpl.out; omega
        have m2 : ((os.length - p : Nat) : Int) ≤ (co' : Int) := by have := Hpc.out; omega
        have m3 : (1 : Int) ≤ (co' : Int) := by omega
        go_wp2_with fail
        ·have e0 : os.length - (p + 1) = 0 := by have := Hpc.out; omega
         go_roundg (os.length - (p + 1))
         case rel => exact ⟨p + 1, _, 0, rfl, by have := Hpl.out; omega, by omega, Nat.le_refl _, S, Hro3.out _ (by omega), Hlo2⟩
         case measure => have := Hpl.out; have := Hq.out; omega
        ·go_roundg (os.length - (p + 1))
         case rel =>
          refine ⟨p + 1, _, co' - 1, rfl, by have := Hpl.out; omega, by have := Hpc.out; omega, Nat.le_refl _, S, ?_, Hlo2⟩
          by_cases hl : p + 1 < os.length
          ·exact Hro2.out hl
          ·exact Hro3.out _ hl
         case measure => have := Hpl.out; have := Hq.out; omega
       ·have d1 : ¬ (os[p].first : Int) < (i : Int) := by omega
        have d2 : decide (os[p].first < i) = false := by simpa using hlo
        have Hup : Hid (∀ h : p < os.length, i ≤ os[p].first) := fun _ => by omega
        have Hp := Lib.hid hp
        have Hro := Lib.hid hro
        generalize os[p].first = of_ at *
        clear v0 v1 v2 v3 vp hcell hge hFb hro hlo hq hpl hpc hp R S
        go_wp2_with fail
        go_quiet (fail)
        have S := hS nq
        clear hS g1 q2 d1 d2
        generalize World.drewN _ nq = w4 at *
        go_wp2_with fail
        go_meet
        exact ⟨p, _, co', rfl, Hp.out, Hpc.out, S, Hro.out, Hlo, Hup⟩
      ·have hpe : p = os.length := by omega
       have e0 : os.length - p = 0 := by omega
       have Hup : Hid (∀ h : p < os.length, i ≤ os[p].first) := fun h => absurd h hpl
       have Hp := Lib.hid hp
       have Hpc := Lib.hid hpc
       have Hro := Lib.hid hro
       have He0 := Lib.hid e0
       rw [e0]
       clear hpe hpl hq hp hpc hro R S e0
       go_wp2_with fail
       go_quiet (fail)
       have S := hS nq
       clear hS g1
       generalize World.drewN _ nq = w4 at *
       go_wp2_with fail
       go_meet
       exact ⟨p, Ao', co', by rw [He0.out], Hp.out, Hpc.out, S, Hro.out, Hlo, Hup⟩
    case rest =>
    clear S hro Hlo hp hpc
    obtain ⟨p, Ao', co', rfl, hp, hpc, S, hro, Hlo, Hup⟩ := hcut
    have hS := fun m => S.drewN m
    obtain ⟨b, n, R⟩ := S.R
    obtain ⟨_, g1, _, _⟩ := R.rs.cells
    have Hp := Lib.hid hp
    have Hpc := Lib.hid hpc
    have Hro := Lib.hid hro
    have HSF := Lib.hid S.F
    clear R hp hpc hro
    go_upto_region 6 with fail
    go_cut [56] (fun v wc => v = .bool (st i) ∧ RdK rk K P g gt d A c s T w i ks [] wc)
    case first =>
     by_cases hpl : p < os.length
     ·obtain ⟨q', v0, v1, v2, v3, vp⟩ := (KdsF.drop p Hos.out).at_ (i := 0) (by rw [List.length_drop]; omega)
      obtain ⟨bb, bo, rfl, hFb, _, hcell⟩ := Hro.out (by rw [List.length_drop, Hovl.out]; omega)
      have hge : (os.drop p)[0]'(by rw [List.length_drop]; omega) = os[p] := by rw [List.getElem_drop]; simp
      rw [hge] at v2
      have q2 := (World.cell?_of_block (a := ⟨bb, bo + 2, none⟩) (HSF.out.oth bb hFb.1 hFb.2)).trans (hcell 2 _ (by simpa using v2))
      have j1 : (0 : Int) < ((os.length - p : Nat) : Int) := by omega
      have j2 : decide (0 < os.length - p) = true := by simp; omega
      have hupp := Hup.out hpl
      by_cases he : os[p].first = i
      ·have hst : st i = true := by rw [← he]; exact hO.hit p hpl
       have e1 : ((os[p].first : Int) == (i : Int)) = true := by simp; omega
       have e2 : (os[p].first == i) = true := by simp; omega
       have Hst := Lib.hid hst
       generalize os[p].first = of_ at *
       clear v0 v1 v2 v3 vp hcell hge hFb hpl hupp he hst S
       go_wp2_with fail
       go_quiet (fail)
       have S := hS nq
       clear hS g1 q2 e1 e2
       go_wp2_with fail
       go_meet
       exact ⟨by rw [Hst.out], S⟩
      ·have hst : st i = false := hO.miss i fun j h e => by
        rcases Nat.lt_trichotomy j p with hjp | hjp | hjp
        ·have := Hlo.out j h hjp; omega
        ·subst hjp; exact he e
        ·have := hO.up p j hpl h hjp; omega
       have e1 : ((os[p].first : Int) == (i : Int)) = false := by simp; omega
       have e2 : (os[p].first == i) = false := by simp; omega
       have Hst := Lib.hid hst
       generalize os[p].first = of_ at *
       clear v0 v1 v2 v3 vp hcell hge hFb hpl hupp he hst S
       go_wp2_with fail
       go_quiet (fail)
       have S := hS nq
       clear hS g1 q2 e1 e2
       go_wp2_with fail
       go_meet
       exact ⟨by rw [Hst.out], S⟩
     ·have e0 : os.length - p = 0 := by omega
      have hst : st i = false := hO.miss i fun j h e => by have := Hlo.out j h (by omega); omega
      have Hst := Lib.hid hst
      have j1 : ¬ (0 : Int) < ((os.length - p : Nat) : Int) := by omega
      have j2 : decide (0 < os.length - p) = false := by simp; omega
      clear hpl hst S e0
      go_wp2_with fail
      go_quiet (fail)
      have S := hS nq
      clear hS g1 j1 j2
      go_wp2_with fail
      go_meet
      exact ⟨by rw [Hst.out], S⟩
    case rest =>
    clear S hS g1 HSF
    obtain ⟨rfl, S⟩ := hcut
    obtain ⟨w4, rfl⟩ : ∃ w4 : World, w4 = wc := ⟨_, rfl⟩
    have Hhit : Hid (st i = true → ∃ h : p < os.length, os[p].first = i) := fun hst => Classical.byContradiction fun hne => by
     have : st i = false := hO.miss i fun j h e => by
      rcases Nat.lt_trichotomy j p with hjp | hjp | hjp
      ·have := Hlo.out j h hjp; omega
      ·subst hjp; exact hne ⟨h, e⟩
      ·have h2 := hO.up p j (by omega) h hjp
       have := Hup.out (by omega)
       omega
     rw [this] at hst
     cases hst
    generalize st i = si at *
    cases si with
    | true =>
     have HaN := Lib.hid (Hsto.out rfl)
     obtain ⟨hpl, hpf⟩ := Hhit.out rfl
     have HKs : Hid (Tr.kidsP s T (T.length + 1) i = ((os.drop p).map (mvB mv), (os[os.length - 1]?.map (·.last)).getD 0)) := by show _ = _; rw [← hpf]; exact hO.stay p hpl
     have Hpl := Lib.hid hpl
     have Hpf := Lib.hid hpf
     have Hpos : Hid (∀ j (h : p + j < os.length), posO os p i j ≤ os[p + j].last ∧ posO os p i (j + 1) = os[p + j].last) := fun j h => by
      have e2 : posO os p i (j + 1) = os[p + j].last := by show (os[p + j]?.map (·.last)).getD 0 = _; rw [List.getElem?_eq_getElem h]; rfl
      refine ⟨?_, e2⟩
      have hfl := hO.fl (p + j) h
      cases j with
      | zero =>
       show i ≤ _
       rw [← Hpf.out]
       exact hfl.1
      | succ j =>
       have h3 : posO os p i (j + 1) = os[p + j].last := by show (os[p + j]?.map (·.last)).getD 0 = _; rw [List.getElem?_eq_getElem (by omega)]; rfl
       have h4 := hO.nx (p + j) (by omega)
       rw [h3, h4]
       exact hfl.1
     clear hpf Hsto Hstp Hhit HK1 HK2 Hgt Hm
     go_wp2_with fail
     go_loopg [59] (os.length - p) (fun q v wr => ∃ j : Nat, v = .int .i64 (j : Int) ∧ j ≤ os.length - p ∧ os.length - p - j ≤ q ∧ RdK rk K P g gt d A c s T w (posO os p i j) (ks ++ ((os.drop p).take j).map (mvB mv)) [] wr)
     case atStart => exact ⟨0, rfl, Nat.zero_le _, Nat.le_refl _, by simpa [posO] using S⟩
     case round =>
      clear S
      obtain ⟨j, rfl, hj, hq, S⟩ := hrel
      by_cases hjl : j < os.length - p
      ·have j0 : (0 : Int) ≤ (j : Int) := by omega
       have j1 : (j : Int) < ((os.length - p : Nat) : Int) := by omega
       have hpj : p + j < os.length := by omega
       obtain ⟨q', v0, v1, v2, v3, hpv⟩ := (KdsF.drop p Hos.out).at_ (i := j) (by rw [List.length_drop]; omega)
       obtain ⟨bb, bo, rfl, hFb, _, hcell⟩ := Hro.out (by rw [List.length_drop, Hovl.out]; omega)
       have hge : (os.drop p)[j]'(by rw [List.length_drop]; omega) = os[p + j] := List.getElem_drop ..
       rw [hge] at v1 v2 v3 hpv
       have hcp := S.F.oth bb hFb.1 hFb.2
       have e0 := hcell _ _ v0
       have e1 := hcell _ _ v1
       have e2 := hcell _ _ v2
       have e3 := hcell _ _ v3
       rw [← Nat.add_assoc] at e1 e2 e3
       have q0 := (World.cell?_of_block (a := ⟨bb, bo + j * 4, none⟩) hcp).trans e0
       have q1 := (World.cell?_of_block (a := ⟨bb, bo + j * 4 + 1, none⟩) hcp).trans e1
       have q2 := (World.cell?_of_block (a := ⟨bb, bo + j * 4 + 2, none⟩) hcp).trans e2
       have q3 := (World.cell?_of_block (a := ⟨bb, bo + j * 4 + 3, none⟩) hcp).trans e3
       obtain ⟨hb1, hb2⟩ := hO.base (p + j) hpj
       obtain ⟨hp1, hp2⟩ := Hpos.out j hpj
       have hfl := (hO.fl (p + j) hpj).2
       have HKT : Hid (ks ++ ((os.drop p).take (j + 1)).map (mvB mv) = (ks ++ ((os.drop p).take j).map (mvB mv)) ++ [⟨os[p + j].part, ((os[p + j].base : Int) + mv).toNat, os[p + j].first, os[p + j].last⟩]) := by
        show _ = _
        rw [List.take_succ_eq_append_getElem (by rw [List.length_drop]; omega), List.map_append, ← List.append_assoc, hge]
        rfl
       have hknl : Hid ((ks ++ ((os.drop p).take j).map (mvB mv)).length ≤ 8388608) := by
        show _ ≤ _
        rw [List.length_append, List.length_map, List.length_take, List.length_drop]
        have := Hkl.out
        have := Hi.out
        have := X.hT
        have := Hol.out
        omega
       have a0 : IntKind.i64.wrap ((os[p + j].base : Int) + mv) = ((((os[p + j].base : Int) + mv).toNat : Nat) : Int) := by rw [IntWalk.i64_in _ (by omega)]; omega
       have c1 : IntKind.i64.wrap ((j : Int) + 1) = (j : Int) + 1 := IntWalk.i64_in _ (by have := Hol.out; omega)
       rw [← hp2] at hp1 hfl
       rw [hp2] at hfl hp1
       have Hp1 := Lib.hid hp1
       have Hp2 := Lib.hid hp2
       have Hfl := Lib.hid hfl
       have Hjl := Lib.hid hjl
       have Hq := Lib.hid hq
       have hFw := S.F
       obtain ⟨Av, cv, vs, At, ct, us, O⟩ := S.O
       have hgtl := O.blk.lt
       have Hkr : Hid (∀ q, (Value.slice Av (ks ++ ((os.drop p).take j).map (mvB mv)).length cv).ownBlock = some q → q < wr.heap.size) := fun q hq => (O.ownk.lt q hq).2
       generalize ((os[p + j].base : Int) + mv).toNat = nb at *
       generalize os[p + j].part = pt at *
       generalize os[p + j].base = kb0 at *
       generalize os[p + j].first = kf at *
       generalize os[p + j].last = kl at *
       clear v0 v1 v2 v3 hcell hge hcp e0 e1 e2 e3 hb1 hb2 hp1 hp2 hfl hjl hq hj hpj hFb
       generalize ks ++ ((os.drop p).take j).map (mvB mv) = kn at *
       generalize posO os p i j = pj at *
       have hd : Below wr.heap.size wr (wr.alloc (.cells #[.pointer (some ⟨q', 0, none⟩), .int .i64 (kb0 : Int), .int .i64 (kf : Int), .int .i64 (kl : Int)] 92)) := (Below.refl _ _).alloc (Nat.le_refl _) _
       have hKb : Blk (wr.alloc (.cells #[.pointer (some ⟨q', 0, none⟩), .int .i64 (kb0 : Int), .int .i64 (kf : Int), .int .i64 (kl : Int)] 92)) wr.heap.size 92 #[.pointer (some ⟨q', 0, none⟩), .int .i64 (kb0 : Int), .int .i64 (kf : Int), .int .i64 (kl : Int)] := Blk.new _ _ _
       have hkw : wr.heap.size < (wr.alloc (.cells #[.pointer (some ⟨q', 0, none⟩), .int .i64 (kb0 : Int), .int .i64 (kf : Int), .int .i64 (kl : Int)] 92)).heap.size := by simp
       obtain ⟨kb, hkb⟩ : ∃ kb, kb = wr.heap.size := ⟨_, rfl⟩
       have Hkb := Lib.hid hkb
       have Hbg : Hid (kb ≠ gt) := by show kb ≠ gt; omega
       clear hgtl
       rw [← hkb] at hKb
       go_upto_region 10 with fail
       rw [← hkb]
       clear hkb q0 q1 q2 q3 hkw
       generalize (wr.alloc (.cells #[.pointer (some ⟨q', 0, none⟩), .int .i64 (kb0 : Int), .int .i64 (kf : Int), .int .i64 (kl : Int)] 92)) = w3 at *
       have k1 := hKb.cell 1
       have kz := hKb.frozen 1
       simp at k1
       have hKb4 := hKb.set_ 1 (.int .i64 (nb : Int))
       simp at hKb4
       have hd4 := hd.setCell (p := ⟨kb, 1, none⟩) (by rw [Hkb.out]; exact Nat.le_refl _) (.int .i64 (nb : Int))
       go_upto_region 11 with fail
       clear k1 kz hKb hd
       generalize w3.setCell ⟨kb, 1, none⟩ (.int .i64 (nb : Int)) = w5 at *
       have S := S.below hd4
       have O := O.below hd4
       refine wp_region_G 10 (fun w' : World => w'.cell? ⟨gt, 2, none⟩ = some (.slice Av kn.length cv) ∧ w'.cell? ⟨kb, 0, none⟩ = some (.pointer (some ⟨q', 0, none⟩)) ∧ w'.cell? ⟨kb, 1, none⟩ = some (.int .i64 (nb : Int)) ∧ w'.cell? ⟨kb, 2, none⟩ = some (.int .i64 (kf : Int)) ∧ w'.cell? ⟨kb, 3, none⟩ = some (.int .i64 (kl : Int))) (by kernel_rfl) ?_
       have hdw : Below w5.heap.size w5 w5.drew := (Below.refl _ _).drew
       have O := O.below hdw
       have S := S.below hdw
       have hKb := hKb4.drew
       have hPt : PtF w5.drew (fun x => P x ∧ some x ≠ (Value.slice Av kn.length cv).ownBlock ∧ some x ≠ (Value.slice At ([] : List Tr.PT).length ct).ownBlock) pt (.iface 90 (.pointer (some ⟨q', 0, none⟩))) :=
        PtF.keep S.F.size (fun x hx hl => ⟨S.F.oth x hx.1 hx.2, HP0.out x (by have := HG.out; have := hx.1.1; omega) hx.2, fun e => O.nrk x e.symm (HKw.out x hx.1), fun e => O.nrt x e.symm (HKw.out x hx.1)⟩) _ _ hpv
       clear hdw hKb4 hd4 hFw
       generalize w5.drew = w6 at *
       have t2 := O.blk.cell 2
       have b0 := hKb.cell 0
       have b1 := hKb.cell 1
       have b2 := hKb.cell 2
       have b3 := hKb.cell 3
       simp at t2 b0 b1 b2 b3
       have hS0 : (fun w' : World => w'.cell? ⟨gt, 2, none⟩ = some (.slice Av kn.length cv) ∧ w'.cell? ⟨kb, 0, none⟩ = some (.pointer (some ⟨q', 0, none⟩)) ∧ w'.cell? ⟨kb, 1, none⟩ = some (.int .i64 (nb : Int)) ∧ w'.cell? ⟨kb, 2, none⟩ = some (.int .i64 (kf : Int)) ∧ w'.cell? ⟨kb, 3, none⟩ = some (.int .i64 (kl : Int))) w6 := ⟨t2, b0, b1, b2, b3⟩
       refine wpAnyG_tk 0 hS0 ?_
       simp only [Act.put, List.setIfInBounds_toArray]
       refine wpAnyG_tk 1 hS0 ?_
       simp only [Act.put]
       refine wpAnyG_tk 2 hS0 ?_
       simp only [Act.put]
       refine wpAnyG_tk 3 hS0 ?_
       simp only [Act.put]
       refine wpAnyG_tk 4 hS0 ?_
       simp only [Act.put]
       refine wpAnyG_tk 5 hS0 ?_
       simp only [Act.put]
       clear hS0
       have hgl := O.blk.lt
       have hbl := hKb.lt
       refine wpAnyG_on 6 fun C hC => ?_
       go_simp
       refine hC.out _ _ (fun _ => ⟨(cell_alloc _ _ _ _ hgl).trans t2, (cell_alloc _ _ _ _ hbl).trans b0, (cell_alloc _ _ _ _ hbl).trans b1, (cell_alloc _ _ _ _ hbl).trans b2, (cell_alloc _ _ _ _ hbl).trans b3⟩) ?_
       clear hC C
       refine wpAnyG_on 7 fun C hC => ?_
       refine step_append_lies _ (by rfl) _ _ _ (by rfl) 0 92 k0 _ 4 32 Tryz.underlying84 ki kz0 kz1 kz2 rfl (by omega) (.slice Av kn.length cv) kn.length vs (by rfl) (O.ownk.alloc (.cells #[.pointer (some ⟨q', 0, none⟩), .int .i64 (nb : Int), .int .i64 (kf : Int), .int .i64 (kl : Int)] 92)) ⟨w6.heap.size, 0, none⟩ 1 1 #[.pointer (some ⟨q', 0, none⟩), .int .i64 (nb : Int), .int .i64 (kf : Int), .int .i64 (kl : Int)].toList (by rfl) (by rfl) (World.news_of_block (heap_alloc_new w6 _)) (by simp [Value.oneCell']) (by omega) (by have := hknl.out; unfold maxLen; omega) (by have := hknl.out; omega) (Nat.zero_le _) (w6.heap.size + 1) (by simp) ?_
       intro gg cap' w7 hown7 hgrow hat hlt7
       obtain ⟨b, n, R⟩ := S.R
       have hgt : K gt := R.rs.tr.kt
       have hpu := O.pushK R.inK hgt HPt.out (k := ⟨pt, nb, kf, kl⟩) hPt hown7 hgrow hat
       have hg7 := (O.blk.alloc (.cells #[.pointer (some ⟨q', 0, none⟩), .int .i64 (nb : Int), .int .i64 (kf : Int), .int .i64 (kl : Int)] 92)).grown hgrow O.kne
       have hk7 := (hKb.alloc (.cells #[.pointer (some ⟨q', 0, none⟩), .int .i64 (nb : Int), .int .i64 (kf : Int), .int .i64 (kl : Int)] 92)).grown hgrow (fun e => by have := Hkr.out kb e.symm; have := Hkb.out; omega)
       have u2 := hg7.cell 2
       have uf := hg7.frozen 2
       have y0 := hk7.cell 0
       have y1 := hk7.cell 1
       have y2 := hk7.cell 2
       have y3 := hk7.cell 3
       simp at u2 y0 y1 y2 y3
       refine hC.out _ _ (fun _ => ⟨u2, y0, y1, y2, y3⟩) ?_
       clear hC C
       refine wpAnyG_on 8 fun C hC => ?_
       go_simp
       refine hC.out _ _ (fun _ => ⟨u2, y0, y1, y2, y3⟩) ?_
       clear hC C
       refine wpAnyG_on 9 fun C hC => ?_
       go_simp
       refine hC.out _ _ (fun _ => ⟨u2, y0, y1, y2, y3⟩) ?_
       clear hC C
       refine wpAnyG_on 10 fun C hC => ?_
       go_simp
       refine hC.out _ _ (fun h => absurd rfl h) ?_
       clear hC C
       refine wpAnyG_done (by kernel_rfl) ?_ _
       obtain ⟨O7, hold, hsz7, hcm7⟩ := hpu
       have hF6 := S.F
       have hrow6 := S.row
       have hs7 : w6.heap.size ≤ (World.setCell w7 ⟨gt, 2, none⟩ (.slice (some ⟨gg, 0, none⟩) (kn.length + 1) cap')).heap.size := by simp [World.setCell]; omega
       have hKold : ∀ x, K x → x ≠ gt → (World.setCell w7 ⟨gt, 2, none⟩ (.slice (some ⟨gg, 0, none⟩) (kn.length + 1) cap')).heap[x]? = w6.heap[x]? := fun x hx hne => hold x (R.inK x hx) hne (fun e => O.nrk x e.symm hx)
       have R7 := R.tree hs7 hKold O.blk O7.blk hrow6 hdg
       have hF7 : Aft (Kw w rk) gt w (World.setCell w7 ⟨gt, 2, none⟩ (.slice (some ⟨gg, 0, none⟩) (kn.length + 1) cap')) := ⟨by have := hF6.size; omega, fun x hx hne => (hKold x (HKw.out x hx) hne).trans (hF6.oth x hx hne), hF6.calm.trans hcm7⟩
       have hrow7 : RowF (World.setCell w7 ⟨gt, 2, none⟩ (.slice (some ⟨gg, 0, none⟩) (kn.length + 1) cap')) (fun x => K x ∧ x ≠ g ∧ x ≠ gt) A (tksC T) := hrow6.keep hs7 fun x hx _ => ⟨hKold x hx.1 hx.2.2, hx⟩
       have hkg : kb ≠ gt := Hbg.out
       have y3' := (World.cell?_of_block (a := ⟨kb, 3, none⟩) (Below.heap_setCell w7 ⟨gt, 2, none⟩ (.slice (some ⟨gg, 0, none⟩) (kn.length + 1) cap') kb hkg)).trans y3
       have S7 : RdK rk K P g gt d A c s T w pj (kn ++ [⟨pt, nb, kf, kl⟩]) [] (World.setCell w7 ⟨gt, 2, none⟩ (.slice (some ⟨gg, 0, none⟩) (kn.length + 1) cap')) := ⟨hF7, ⟨_, _, R7⟩, ⟨_, _, _, _, _, _, O7⟩, hrow7⟩
       clear O7 hold hsz7 hcm7 hs7 hKold R7 hF7 hrow7 hF6 hrow6 uf u2 y0 y1 y2 y3 hg7 hk7 hown7 hgrow hat hlt7 hgl hbl t2 b0 b1 b2 b3 hPt hKb O S R hkg
       generalize (World.setCell w7 ⟨gt, 2, none⟩ (.slice (some ⟨gg, 0, none⟩) (kn.length + 1) cap')) = w8 at *
       obtain ⟨b8, n8, R8⟩ := S7.R
       obtain ⟨_, g1, _, _⟩ := R8.rs.cells
       have gf := R8.rs.rd.frozen 1
       have S9 := S7.at_ X HG.out R8.rs.tr.ne HPg.out Hp1.out Hfl.out
       clear S7 R8
       go_wp2_with fail
       go_roundg (os.length - p - (j + 1))
       case rel => exact ⟨j + 1, by go_num, by have := Hjl.out; omega, Nat.le_refl _, by rw [Hp2.out, HKT.out]; exact S9⟩
       case measure => have := Hjl.out; have := Hq.out; omega
      ·have hje : j = os.length - p := by omega
       have hFS : RdK rk K P g gt d A c s T w all.2 all.1 [] wr := by
        have e1 : (os.drop p).take j = os.drop p := List.take_of_length_le (by rw [List.length_drop]; omega)
        have h1 := Hk1.out
        have h2 := Hk2.out
        rw [HKs.out] at h1 h2
        have e2 : posO os p i j = all.2 := by
         rw [← h2, hje]
         obtain ⟨m, hm⟩ : ∃ m, os.length - p = m + 1 := ⟨os.length - p - 1, by have := Hpl.out; omega⟩
         rw [hm]
         show (os[p + m]?.map (·.last)).getD 0 = _
         rw [show p + m = os.length - 1 by omega]
        rw [e2, e1, h1] at S
        exact S
       have j1 : ¬ (j : Int) < ((os.length - p : Nat) : Int) := by omega
       have j2 : decide (j < os.length - p) = false := by simp; omega
       clear hjl hj hq hje S
       go_wp2_with fail
       go_meet
       exact ⟨by rw [HaN.out], hFS⟩
    | false =>
     have HN2 := Lib.hid (Hstp.out rfl)
     clear Hhit Hsto Hstp
     obtain ⟨Av, cv, vs, At, ct, us, O⟩ := S.O
     go_wp2_with fail
     refine wp_region_G 11 (fun w' : World => w'.cell? ⟨gt, 2, none⟩ = some (.slice Av ks.length cv)) (by kernel_rfl) ?_
     have hd : Below w4.heap.size w4 w4.drew := (Below.refl _ _).drew
     have O := O.below hd
     have S := S.below hd
     clear hd
     generalize w4.drew = w5 at *
     obtain ⟨b, n, R⟩ := S.R
     have hrow := S.row
     have hF := S.F
     clear S
     have t2 := O.blk.cell 2
     simp at t2
     have hS0 : (fun w' : World => w'.cell? ⟨gt, 2, none⟩ = some (.slice Av ks.length cv)) w5 := t2
     refine wpAnyG_tk 0 hS0 ?_
     simp only [Act.put, List.setIfInBounds_toArray]
     refine wpAnyG_tk 1 hS0 ?_
     simp only [Act.put]
     refine wpAnyG_tk 2 hS0 ?_
     simp only [Act.put]
     refine wpAnyG_tk 3 hS0 ?_
     simp only [Act.put]
     refine wpAnyG_tk 4 hS0 ?_
     simp only [Act.put]
     refine wpAnyG_tk 5 hS0 ?_
     simp only [Act.put]
     clear hS0
     have hkd := kid_walk X R.old
     refine wpAnyG_on 6 fun C hC => ?_
     go_simp
     ((with_reducible refine hkd.mono ?_))
     clear hkd
     intro e w6 h6
     obtain ⟨q, rfl, hA6, R6, hp6⟩ := h6
     have hgt : K gt := R.rs.tr.kt
     have hgK : K g := R.rs.tr.kg
     have hne : gt ≠ g := R.rs.tr.ne
     have hK0 := R.inK
     have O6 := O.aft hA6 hgK hne HPg.out
     have hA6K := hA6.old hK0
     have R6 := R.from_any R6 hA6K
     have hgg : w.heap.size ≤ g := HG.out
     have hF6 : Aft (Kw w rk) gt w w6 := hF.trans ⟨hA6.size, fun x hx _ => hA6.oth x (Nat.lt_of_lt_of_le hx.1 hF.size) (by have hx : x < w.heap.size := hx.1; omega), hA6.calm⟩
     have hrow6 : RowF w6 (fun x => K x ∧ x ≠ g ∧ x ≠ gt) A (tksC T) := hrow.keep hA6.size fun x hx hl => ⟨hA6.oth x hl hx.2.1, hx⟩
     have hp : PtF w6 (fun x => P x ∧ some x ≠ (Value.slice Av ks.length cv).ownBlock ∧ some x ≠ (Value.slice At ([] : List Tr.PT).length ct).ownBlock) (Tr.kidP s T i).1 (.iface 90 (.pointer (some ⟨q, 0, none⟩))) :=
      PtF.keep (Nat.le_refl _) (fun x hF _ => ⟨rfl, HP0.out x (fun e => hF (hK0 x (e ▸ hgK))) (fun e => hF (hK0 x (e ▸ hgt))), fun e => hF (O.ownk.lt x e.symm).2, fun e => hF (O.ownt.lt x e.symm).2⟩) _ _ hp6
     clear O R hF hrow hp6 hA6 hA6K
     have t2 := O6.blk.cell 2
     simp at t2
     refine hC.out _ _ (fun _ => t2) ?_
     clear hC C
     have hkl2 : ks.length ≤ 4194304 := by have := Hkl.out; have := Hi.out; have := X.hT; omega
     have hgl := O6.blk.lt
     refine wpAnyG_on 7 fun C hC => ?_
     go_simp
     refine hC.out _ _ (fun _ => (cell_alloc _ _ _ _ hgl).trans t2) ?_
     clear hC C
     refine wpAnyG_on 8 fun C hC => ?_
     refine step_append_lies _ (by rfl) _ _ _ (by rfl) 0 92 k0 _ 4 32 Tryz.underlying84 ki kz0 kz1 kz2 rfl (by omega) (.slice Av ks.length cv) ks.length vs (by rfl) (O6.ownk.alloc (.cells #[.pointer (some ⟨q, 0, none⟩), .int .i64 (Tr.absP s T i : Int), .int .i64 (i : Int), .int .i64 ((Tr.kidP s T i).2 : Int)] 92)) ⟨w6.heap.size, 0, none⟩ 1 1 #[.pointer (some ⟨q, 0, none⟩), .int .i64 (Tr.absP s T i : Int), .int .i64 (i : Int), .int .i64 ((Tr.kidP s T i).2 : Int)].toList (by rfl) (by rfl) (World.news_of_block (heap_alloc_new w6 _)) (by simp [Value.oneCell']) (by omega) (by unfold maxLen; omega) (by omega) (Nat.zero_le _) (w6.heap.size + 1) (by simp) ?_
     intro gg cap' w7 hown7 hgrow hat hlt7
     have hpu := O6.pushK R6.inK hgt HPt.out (k := Tr.kdP s T i) hp hown7 hgrow hat
     have hg7 := (O6.blk.alloc (.cells #[.pointer (some ⟨q, 0, none⟩), .int .i64 (Tr.absP s T i : Int), .int .i64 (i : Int), .int .i64 ((Tr.kidP s T i).2 : Int)] 92)).grown hgrow O6.kne
     have b2 := hg7.cell 2
     have bf := hg7.frozen 2
     simp at b2
     refine hC.out _ _ (fun _ => b2) ?_
     clear hC C
     refine wpAnyG_on 9 fun C hC => ?_
     go_simp
     refine hC.out _ _ (fun _ => b2) ?_
     clear hC C
     refine wpAnyG_on 10 fun C hC => ?_
     go_simp
     refine hC.out _ _ (fun _ => b2) ?_
     clear hC C
     refine wpAnyG_on 11 fun C hC => ?_
     go_simp
     refine hC.out _ _ (fun h => absurd rfl h) ?_
     clear hC C
     refine wpAnyG_done (by kernel_rfl) ?_ _
     obtain ⟨O7, hold, hsz7, hcm7⟩ := hpu
     have hlen7 : (ks ++ [Tr.kdP s T i]).length = ks.length + 1 := by simp
     have hs7 : w6.heap.size ≤ (World.setCell w7 ⟨gt, 2, none⟩ (.slice (some ⟨gg, 0, none⟩) (ks.length + 1) cap')).heap.size := by simp [World.setCell]; omega
     have hKold : ∀ x, K x → x ≠ gt → (World.setCell w7 ⟨gt, 2, none⟩ (.slice (some ⟨gg, 0, none⟩) (ks.length + 1) cap')).heap[x]? = w6.heap[x]? := fun x hx hne => hold x (R6.inK x hx) hne (fun e => O6.nrk x e.symm hx)
     have R7 := R6.tree hs7 hKold O6.blk O7.blk hrow6 hdg
     have hF7 : Aft (Kw w rk) gt w (World.setCell w7 ⟨gt, 2, none⟩ (.slice (some ⟨gg, 0, none⟩) (ks.length + 1) cap')) := ⟨by have := hF6.size; omega, fun x hx hne => (hKold x (HKw.out x hx) hne).trans (hF6.oth x hx hne), hF6.calm.trans hcm7⟩
     have hrow7 : RowF (World.setCell w7 ⟨gt, 2, none⟩ (.slice (some ⟨gg, 0, none⟩) (ks.length + 1) cap')) (fun x => K x ∧ x ≠ g ∧ x ≠ gt) A (tksC T) := hrow6.keep hs7 fun x hx _ => ⟨hKold x hx.1 hx.2.2, hx⟩
     have S : RdK rk K P g gt d A c s T w (Tr.kidP s T i).2 (ks ++ [Tr.kdP s T i]) [] (World.setCell w7 ⟨gt, 2, none⟩ (.slice (some ⟨gg, 0, none⟩) (ks.length + 1) cap')) := ⟨hF7, ⟨_, _, R7⟩, ⟨_, _, _, _, _, _, O7⟩, hrow7⟩
     clear O7 hold hsz7 hcm7 hs7 hKold R7 hF7 hrow7 O6 hp R6 hF6 hrow6 b2 bf hg7 t2 hown7 hgrow hat hlt7 hgl
     generalize (World.setCell w7 ⟨gt, 2, none⟩ (.slice (some ⟨gg, 0, none⟩) (ks.length + 1) cap')) = w8 at *
     have c1 : IntKind.i64.wrap ((a : Int) + 1) = (a : Int) + 1 := IntWalk.i64_in _ (by have := Hai.out; have := Hi.out; have := X.hT; omega)
     have Hi2 : Hid ((Tr.kidP s T i).2 ≤ T.length) := by obtain ⟨_, _, R⟩ := S.R; exact R.hi
     generalize (Tr.kidP s T i).2 = i2 at *
     go_wp2_with fail
     go_roundg (T.length - i2)
     case rel => exact ⟨i2, a + 1, p, _, Ao', co', rfl, by go_num, Nat.le_refl _, Hp.out, Hpc.out, by have := Hgt.out; have := Hai.out; omega, by have := Hgt.out; have := Hkl.out; simp; omega, S, Hro.out, HN2, HK1, HK2, fun j h hj => by have := Hlo.out j h hj; have := Hgt.out; omega⟩
     case measure => have := Hgt.out; have := Hm.out; have := Hi2.out; omega
   ·have hst := Tr.kids_stop s T i hlt
    rw [hst] at Hk1 Hk2
    have Hks : Hid (ks = all.1) := by show _ = _; have := Hk1.out; rwa [List.append_nil] at this
    have Hi2 : Hid (i = all.2) := Hk2.out
    have HaN : Hid (a = N) := by show _ = _; have := hO.sto i (fun e => hlt e.1); have := HNN.out; omega
    have i1 : ¬ ((Tr.nextP T i : Nat) : Int) < (T.length : Int) := by omega
    have i2 : decide (Tr.nextP T i < T.length) = false := by simpa using hlt
    clear hst Hk1 Hk2 hm hkl R O HNN
    generalize Tr.nextP T i = nx at *
    clear hlt
    go_wp2_with fail
    go_quiet ((go_at_call 83; exact Calls.quiet_of_same (hnx _)))
    clear S
    have S := hS nq
    clear hS hnx t1
    generalize wr.drewN nq = w2 at *
    go_wp2_with fail
    go_meet
    exact ⟨by rw [HaN.out], by rw [← Hks.out, ← Hi2.out]; exact S⟩
 case rest =>
 clear S Hk1 Hk2 HNN hkf hfr
 obtain ⟨rfl, S⟩ := hcut
 have HNc : Hid (N = N) := rfl
 obtain ⟨i, Hi2⟩ : ∃ i, Hid (i = all.2) := ⟨_, rfl⟩
 obtain ⟨ks, Hks⟩ : ∃ ks, Hid (ks = all.1) := ⟨_, rfl⟩
 rw [← Hi2.out, ← Hks.out] at S
 obtain ⟨w2, rfl⟩ : ∃ w2 : World, w2 = wc := ⟨_, rfl⟩
 have hi : i ≤ T.length := by obtain ⟨_, _, R⟩ := S.R; exact R.hi
 have i2 : (i : Int) ≤ (T.length : Int) := by omega
 have i3 : (i : Int) ≤ (T.length : Int) := i2
 have i4 : (0 : Int) ≤ (i : Int) := by omega
 have Hm : Hid (i ≤ T.length) := hi
 have hT := X.hT
 go_upto_region 16 with fail
 go_cut [105, 106, 107] (fun v z y wc => ∃ A' c', v = .slice A' (T.length - i) c' ∧ z = .int .i64 ((T.length - i : Nat) : Int) ∧ y = .int .i64 0 ∧ RdK rk K P g gt d A c s T w i ks [] wc ∧ RowF wc (fun x => K x ∧ x ≠ g ∧ x ≠ gt) A' (tksC (T.drop i)))
 case first =>
  have hrow : RowF w2 (fun x => K x ∧ x ≠ g ∧ x ≠ gt) A (tksC T) := S.row
  have hS := fun m => S.drewN m
  obtain ⟨b, n, R⟩ := S.R
  have hi := R.hi
  obtain ⟨g0, g1, _, _⟩ := R.rs.cells
  obtain ⟨Av, cv, vs, At, ct, us, O⟩ := S.O
  have t1 := O.blk.cell 1
  simp at t1
  have i6 : (i : Int) ≤ (c : Int) := by omega
  have i7 : (T.length : Int) ≤ (c : Int) := by omega
  have Hi := Lib.hid hi
  have Hc := Lib.hid hc
  clear R O S hi
  rcases A with _ | ⟨ab, ao, ak⟩
  ·have hT0 : ¬ 0 < T.length := fun h => by
    obtain ⟨b, o, e, _⟩ := hrow (by have := tksC_len T; omega)
    cases e
   have hTn : T = [] := List.eq_nil_of_length_eq_zero (by omega)
   have hin : i = 0 := by have := Hi.out; omega
   have Hre : Hid (∀ m A', RowF (w2.drewN m) (fun x => K x ∧ x ≠ g ∧ x ≠ gt) A' (tksC (T.drop i))) := fun m A' hn => by
    rw [hTn] at hn
    exact absurd hn (by simp [tksC])
   clear hrow hT0 hTn
   subst hin
   go_wp2_with fail
   go_quiet (fail)
   go_wp2_with fail
   all_goals go_meet
   exact ⟨_, _, rfl, rfl, rfl, hS nq, Hre.out nq _⟩
  ·have Hrw : Hid (∀ m, i < T.length → RowF (w2.drewN m) (fun x => K x ∧ x ≠ g ∧ x ≠ gt) (some ⟨ab, ao + i * 3, ak⟩) (tksC (T.drop i))) := fun m hlt hn => by
    obtain ⟨b, o, e, hFb, hl, hcell⟩ := hrow (by have := tksC_len T; omega)
    injection e with e
    injection e with e1 e2 e3
    subst e1 e2 e3
    refine ⟨ab, ao + i * 3, rfl, hFb, hl, fun j u hu => ?_⟩
    have hj : (tksC T)[i * 3 + j]? = some u := by rw [← tksC_at3]; exact hu
    have := hcell _ _ hj
    rw [← Nat.add_assoc] at this
    exact this
   have Hre : Hid (∀ m A', i = T.length → RowF (w2.drewN m) (fun x => K x ∧ x ≠ g ∧ x ≠ gt) A' (tksC (T.drop i))) := fun m A' he hn => by
    rw [he, List.drop_length] at hn
    exact absurd hn (by simp [tksC])
   have Hak : Hid (i < T.length → ak = none) := fun hlt => by
    obtain ⟨b, o, e, _⟩ := hrow (by have := tksC_len T; omega)
    injection e with e
    injection e with e1 e2 e3
   clear hrow
   go_wp2_with fail
   go_quiet (fail)
   go_wp2_with fail
   all_goals go_meet
   ·rename_i hci
    exact ⟨_, _, rfl, rfl, rfl, hS nq, Hre.out nq _ (by have := Hi.out; have := Hc.out; omega)⟩
   ·by_cases he : i = T.length
    ·exact ⟨_, _, rfl, rfl, rfl, hS nq, Hre.out nq _ he⟩
    ·obtain rfl := Hak.out (by have := Hi.out; omega)
     have hrw := Hrw.out nq (by have := Hi.out; omega)
     have ha : (⟨ab, ao, none⟩ : Addr).add (i * 3) = ⟨ab, ao + i * 3, none⟩ := by
      simp only [Addr.add]
      split
      ·rename_i h0
       rw [h0, Nat.add_zero]
      ·rfl
     exact ⟨_, _, rfl, rfl, rfl, hS nq, by rw [ha]; exact hrw⟩
 case rest =>
 clear S
 obtain ⟨A', c', rfl, rfl, rfl, S, hrow'⟩ := hcut
 have hi : i ≤ T.length := by obtain ⟨_, _, R⟩ := S.R; exact R.hi
 have hall : Tr.tailP s T all.2 = leavesP s T 0 i T.length := by
  rw [← Hi2.out]
  unfold Tr.tailP leavesP
  rw [List.take_of_length_le (by rw [List.length_drop]; exact Nat.le_refl _)]
 have Hall := Lib.hid hall
 have Hi := Lib.hid hi
 clear hall Hi2 Hm hi i2 i3
 go_wp2_with fail
 go_loopg [107] (T.length - i) (fun m v wr => ∃ k : Nat, v = .int .i64 (k : Int) ∧ k ≤ T.length - i ∧ T.length - i - k ≤ m ∧ RdK rk K P g gt d A c s T w i ks (leavesP s T 0 i (i + k)) wr ∧ RowF wr (fun x => K x ∧ x ≠ g ∧ x ≠ gt) A' (tksC (T.drop i)))
 case atStart => exact ⟨0, rfl, Nat.zero_le _, Nat.le_refl _, by rw [Nat.add_zero, leaves_self]; exact S, hrow'⟩
 case round =>
  clear S hrow'
  obtain ⟨k, rfl, hk, hm, S, hrow'⟩ := hrel
  have Hm := Lib.hid hm
  have Hk := Lib.hid hk
  by_cases hlt : k < T.length - i
  ·have j0 : (0 : Int) ≤ (k : Int) := by omega
   have j1 : (k : Int) < ((T.length - i : Nat) : Int) := by omega
   have hlt2 : i + k < T.length := by omega
   have hdl : (T.drop i).length = T.length - i := List.length_drop ..
   have hrow'' := hrow'
   obtain ⟨br, o, rfl, _, hbl, q0, q1, q2⟩ := hrow'.tk (k := k) (by rw [hdl]; exact hlt)
   have hge : (T.drop i)[k]'(by rw [hdl]; exact hlt) = T[i + k] := List.getElem_drop ..
   rw [hge] at q0 q1 q2
   clear hrow'
   have HL := Lib.hid (leaves_succ s T 0 i (i + k) (Nat.le_add_right _ _) hlt2)
   have hll := leaves_len s T 0 i (i + k)
   obtain ⟨h1, h2, h3⟩ := X.good.at_ hlt2
   have Hlf : Hid (Tr.leafP s 0 T[i + k] = .leaf T[i + k].1 (Tr.subT s T[i + k]) (T[i + k].2.1 - 0)) := rfl
   have Hsub := Lib.hid (sub_str s T[i + k])
   generalize T[i + k] = t at *
   obtain ⟨tk, ta, tl⟩ := t
   dsimp only at h1 h2 h3 q0 q1 q2 Hlf Hsub
   have HL2 : Hid (leavesP s T 0 i (i + (k + 1)) = leavesP s T 0 i (i + k) ++ [.leaf tk (Tr.subT s (tk, ta, tl)) ta]) := by
    show _ = _
    rw [← Nat.add_assoc, HL.out, Hlf.out, Nat.sub_zero]
   have hpl : (leavesP s T 0 i (i + k)).length ≤ 60000000 := by omega
   have hs := X.hs
   have a1 : (0 : Int) ≤ (ta : Int) + tl := by omega
   have a0 : IntKind.i64.wrap ((ta : Int) + tl) = (ta : Int) + tl := IntWalk.i64_in _ (by omega)
   have a2 : ((ta : Int) + tl).toNat = ta + tl := by omega
   have a3 : (ta : Int) + tl ≤ (s.length : Int) := by omega
   have a4 : (ta : Int) ≤ (ta : Int) + tl := by omega
   have a5 : ta ≤ ta + tl := by omega
   have a6 : ta + tl ≤ s.length := h1
   have HrowD : Hid (∀ w', Below wr.heap.size wr w' → RowF w' (fun x => K x ∧ x ≠ g ∧ x ≠ gt) (some ⟨br, o, none⟩) (tksC (T.drop i))) := fun w' hb => hrow''.keep hb.size fun x hx hl => ⟨hb.block x hl, hx⟩
   have Hlt := Lib.hid hlt
   clear HL Hlf hll hlt2 hdl hge hT h1 h2 h3 hs hrow''
   generalize leavesP s T 0 i (i + k) = ts at *
   obtain ⟨bx, hbx⟩ : ∃ x, x = wr.heap.size := ⟨_, rfl⟩
   have hd : Below wr.heap.size wr (wr.alloc (.cells #[.int .i64 (tk : Int), .int .i64 (ta : Int), .int .i64 (tl : Int)] 131)) := (Below.refl _ _).alloc (Nat.le_refl _) _
   have S := S.below hd
   have hrow2 := HrowD.out _ hd
   have hBx : Blk (wr.alloc (.cells #[.int .i64 (tk : Int), .int .i64 (ta : Int), .int .i64 (tl : Int)] 131)) bx 131 #[.int .i64 (tk : Int), .int .i64 (ta : Int), .int .i64 (tl : Int)] := by rw [hbx]; exact Blk.new _ _ _
   clear hd HrowD
   go_upto_region 19 with fail
   rw [← hbx]
   clear hbx q0 q1 q2 hbl
   generalize (wr.alloc (.cells #[.int .i64 (tk : Int), .int .i64 (ta : Int), .int .i64 (tl : Int)] 131)) = w2 at *
   obtain ⟨Av, cv, vs, At, ct, us, O⟩ := S.O
   refine wp_region_G 26 (fun w' : World => w'.cell? ⟨gt, 3, none⟩ = some (.slice At ts.length ct) ∧ w'.cell? ⟨bx, 0, none⟩ = some (.int .i64 (tk : Int)) ∧ w'.cell? ⟨bx, 1, none⟩ = some (.int .i64 (ta : Int)) ∧ w'.cell? ⟨bx, 2, none⟩ = some (.int .i64 (tl : Int))) (by kernel_rfl) ?_
   have hd : Below w2.heap.size w2 w2.drew := (Below.refl _ _).drew
   have O := O.below hd
   have S := S.below hd
   have hBx := hBx.drew
   have hrow2 := hrow2.keep (F' := fun x => K x ∧ x ≠ g ∧ x ≠ gt) hd.size fun x hx hl => ⟨hd.block x hl, hx⟩
   clear hd
   generalize w2.drew = w3 at *
   obtain ⟨b, n, R⟩ := S.R
   have hrow := S.row
   have hF := S.F
   clear S
   have t3 := O.blk.cell 3
   have b0 := hBx.cell 0
   have b1 := hBx.cell 1
   have b2 := hBx.cell 2
   simp at t3 b0 b1 b2
   obtain ⟨d', _, _, t0, _, d0, _⟩ := R.rs.tr.cells
   have hS0 : (fun w' : World => w'.cell? ⟨gt, 3, none⟩ = some (.slice At ts.length ct) ∧ w'.cell? ⟨bx, 0, none⟩ = some (.int .i64 (tk : Int)) ∧ w'.cell? ⟨bx, 1, none⟩ = some (.int .i64 (ta : Int)) ∧ w'.cell? ⟨bx, 2, none⟩ = some (.int .i64 (tl : Int))) w3 := ⟨t3, b0, b1, b2⟩
   refine wpAnyG_tk 0 hS0 ?_
   simp only [Act.put, List.setIfInBounds_toArray]
   refine wpAnyG_tk 1 hS0 ?_
   simp only [Act.put]
   refine wpAnyG_tk 2 hS0 ?_
   simp only [Act.put]
   refine wpAnyG_tk 3 hS0 ?_
   simp only [Act.put]
   refine wpAnyG_tk 4 hS0 ?_
   simp only [Act.put]
   refine wpAnyG_tk 5 hS0 ?_
   simp only [Act.put]
   refine wpAnyG_tk 6 hS0 ?_
   simp only [Act.put]
   refine wpAnyG_tk 7 hS0 ?_
   simp only [Act.put]
   refine wpAnyG_tk 9 hS0 ?_
   simp only [Act.put]
   refine wpAnyG_tk 10 hS0 ?_
   simp only [Act.put]
   refine wpAnyG_tk 11 hS0 ?_
   simp only [Act.put]
   refine wpAnyG_tk 12 hS0 ?_
   simp only [Act.put]
   refine wpAnyG_tk 13 hS0 ?_
   simp only [Act.put]
   refine wpAnyG_tk 14 hS0 ?_
   simp only [Act.put]
   refine wpAnyG_tk 15 hS0 ?_
   simp only [Act.put]
   refine wpAnyG_tk 17 hS0 ?_
   simp only [Act.put]
   refine wpAnyG_tk 18 hS0 ?_
   simp only [Act.put]
   clear hS0
   refine wpAnyG_on 8 fun C hC => ?_
   go_simp
   ((with_reducible refine (ttext_walk t0 d0).mono ?_))
   rintro e w4 ⟨rfl, rfl⟩
   refine hC.out _ _ (fun _ => ⟨t3, b0, b1, b2⟩) ?_
   clear hC C
   refine wpAnyG_on 16 fun C hC => ?_
   go_simp
   refine hC.out _ _ (fun _ => ⟨t3, b0, b1, b2⟩) ?_
   clear hC C
   refine wpAnyG_on 19 fun C hC => ?_
   go_simp
   refine hC.out _ _ (fun _ => ⟨t3, b0, b1, b2⟩) ?_
   clear hC C
   have hd : Below w4.heap.size w4 (w4.alloc (.cells #[.int .i64 (tk : Int), .string ((⟨s.toArray⟩ : ByteArray).extract ta (ta + tl)), .int .i64 (ta : Int)] 106)) := (Below.refl _ _).alloc (Nat.le_refl _) _
   have hBg : Blk (w4.alloc (.cells #[.int .i64 (tk : Int), .string ((⟨s.toArray⟩ : ByteArray).extract ta (ta + tl)), .int .i64 (ta : Int)] 106)) w4.heap.size 106 #[.int .i64 (tk : Int), .string ((⟨s.toArray⟩ : ByteArray).extract ta (ta + tl)), .int .i64 (ta : Int)] := Blk.new _ _ _
   have hp : PtF (w4.alloc (.cells #[.int .i64 (tk : Int), .string ((⟨s.toArray⟩ : ByteArray).extract ta (ta + tl)), .int .i64 (ta : Int)] 106)) (fun x => P x ∧ some x ≠ (Value.slice Av ks.length cv).ownBlock ∧ some x ≠ (Value.slice At ts.length ct).ownBlock) (.leaf tk (Tr.subT s (tk, ta, tl)) ta) (.iface 104 (.pointer (some ⟨w4.heap.size, 0, none⟩))) :=
    ⟨w4.heap.size, rfl, ⟨HP0.out _ (fun e => by have := R.inK _ R.rs.tr.kg; rw [← e] at this; exact Nat.lt_irrefl _ this) (fun e => by have := R.inK _ R.rs.tr.kt; rw [← e] at this; exact Nat.lt_irrefl _ this), fun e => by have := (O.ownk.lt _ e.symm).2; omega, fun e => by have := (O.ownt.lt _ e.symm).2; omega⟩, by rw [← show Value.string ((⟨s.toArray⟩ : ByteArray).extract ta (ta + tl)) = .string ⟨(Tr.subT s (tk, ta, tl)).toArray⟩ from Hsub.out]; exact hBg⟩
   have hbx3 := hBx.lt
   have hgl := O.blk.lt
   refine wpAnyG_on 20 fun C hC => ?_
   go_simp
   have hA : Aft (Kw w rk) gt w (w4.alloc (.cells #[.int .i64 (tk : Int), .string ((⟨s.toArray⟩ : ByteArray).extract ta (ta + tl)), .int .i64 (ta : Int)] 106)) := hF.trans ⟨hd.size, fun x hx _ => hd.block x (Nat.lt_of_lt_of_le hx.1 hF.size), Calm.below hd⟩
   have R := R.below hd
   have O := O.below hd
   have hrow : RowF (w4.alloc (.cells #[.int .i64 (tk : Int), .string ((⟨s.toArray⟩ : ByteArray).extract ta (ta + tl)), .int .i64 (ta : Int)] 106)) (fun x => K x ∧ x ≠ g ∧ x ≠ gt) A (tksC T) := hrow.keep hd.size fun x hx hl => ⟨hd.block x hl, hx⟩
   have hBx := hBx.alloc (.cells #[.int .i64 (tk : Int), .string ((⟨s.toArray⟩ : ByteArray).extract ta (ta + tl)), .int .i64 (ta : Int)] 106)
   have hrow2 := hrow2.keep (F' := fun x => K x ∧ x ≠ g ∧ x ≠ gt) hd.size fun x hx hl => ⟨hd.block x hl, hx⟩
   have t3 := O.blk.cell 3
   have b0 := hBx.cell 0
   have b1 := hBx.cell 1
   have b2 := hBx.cell 2
   simp at t3 b0 b1 b2
   refine hC.out _ _ (fun _ => ⟨by simpa using t3, by simpa using b0, by simpa using b1, by simpa using b2⟩) ?_
   clear hC C hd hBg t0 d0 hF
   obtain ⟨q, hq⟩ : ∃ q, q = w4.heap.size := ⟨_, rfl⟩
   rw [← hq] at hp ⊢
   clear hq
   generalize (w4.alloc (.cells #[.int .i64 (tk : Int), .string ((⟨s.toArray⟩ : ByteArray).extract ta (ta + tl)), .int .i64 (ta : Int)] 106)) = w6 at *
   refine wpAnyG_on 21 fun C hC => ?_
   go_simp
   refine hC.out _ _ (fun _ => ⟨t3, b0, b1, b2⟩) ?_
   clear hC C
   have hgl := O.blk.lt
   have hbl := hBx.lt
   refine wpAnyG_on 22 fun C hC => ?_
   go_simp
   refine hC.out _ _ (fun _ => ⟨(cell_alloc _ _ _ _ hgl).trans t3, (cell_alloc _ _ _ _ hbl).trans b0, (cell_alloc _ _ _ _ hbl).trans b1, (cell_alloc _ _ _ _ hbl).trans b2⟩) ?_
   clear hC C
   refine wpAnyG_on 23 fun C hC => ?_
   refine step_append_lies _ (by rfl) _ _ _ (by rfl) 0 94 i0 _ 1 16 Tryz.underlying85 ji jz0 jz1 jz2 rfl (by omega) (.slice At ts.length ct) ts.length us (by rfl) (O.ownt.alloc (.cells #[.iface 104 (.pointer (some ⟨q, 0, none⟩))] 94)) ⟨w6.heap.size, 0, none⟩ 1 1 [.iface 104 (.pointer (some ⟨q, 0, none⟩))] (by rfl) (by rfl) (World.news_of_block (heap_alloc_new w6 _)) (by simp [Value.oneCell']) (by omega) (by unfold maxLen; omega) (by omega) (Nat.zero_le _) (w6.heap.size + 1) (by simp) ?_
   intro gg cap' w7 hown7 hgrow hat hlt7
   have hpu := O.pushT R.inK R.rs.tr.kt HPt.out hp hown7 hgrow hat
   have hg7 := (O.blk.alloc (.cells #[.iface 104 (.pointer (some ⟨q, 0, none⟩))] 94)).grown hgrow O.tne
   have e3 := hg7.cell 3
   have bf := hg7.frozen 3
   have hx7 := (hBx.alloc (.cells #[.iface 104 (.pointer (some ⟨q, 0, none⟩))] 94)).grown hgrow (own_ne O.ownt hBx (by decide))
   have e0 := hx7.cell 0
   have e1 := hx7.cell 1
   have e2 := hx7.cell 2
   simp at e3 e0 e1 e2
   refine hC.out _ _ (fun _ => ⟨e3, e0, e1, e2⟩) ?_
   clear hC C
   refine wpAnyG_on 24 fun C hC => ?_
   go_simp
   refine hC.out _ _ (fun _ => ⟨e3, e0, e1, e2⟩) ?_
   clear hC C
   refine wpAnyG_on 25 fun C hC => ?_
   go_simp
   refine hC.out _ _ (fun _ => ⟨e3, e0, e1, e2⟩) ?_
   clear hC C
   refine wpAnyG_on 26 fun C hC => ?_
   go_simp
   refine hC.out _ _ (fun h => absurd rfl h) ?_
   clear hC C
   refine wpAnyG_done (by kernel_rfl) ?_ _
   obtain ⟨O7, hold, hsz7, hcm7⟩ := hpu
   have hs7 : w6.heap.size ≤ (World.setCell w7 ⟨gt, 3, none⟩ (.slice (some ⟨gg, 0, none⟩) (ts.length + 1) cap')).heap.size := by simp [World.setCell]; omega
   have hKold : ∀ x, K x → x ≠ gt → (World.setCell w7 ⟨gt, 3, none⟩ (.slice (some ⟨gg, 0, none⟩) (ts.length + 1) cap')).heap[x]? = w6.heap[x]? := fun x hx hne => hold x (R.inK x hx) hne (fun e => O.nrt x e.symm hx)
   have R7 := R.tree hs7 hKold O.blk O7.blk hrow hdg
   have hF7 : Aft (Kw w rk) gt w (World.setCell w7 ⟨gt, 3, none⟩ (.slice (some ⟨gg, 0, none⟩) (ts.length + 1) cap')) := ⟨by have := hA.size; omega, fun x hx hne => (hKold x (HKw.out x hx) hne).trans (hA.oth x hx hne), hA.calm.trans hcm7⟩
   have hrow7 : RowF (World.setCell w7 ⟨gt, 3, none⟩ (.slice (some ⟨gg, 0, none⟩) (ts.length + 1) cap')) (fun x => K x ∧ x ≠ g ∧ x ≠ gt) A (tksC T) := hrow.keep hs7 fun x hx _ => ⟨hKold x hx.1 hx.2.2, hx⟩
   have hrow8 : RowF (World.setCell w7 ⟨gt, 3, none⟩ (.slice (some ⟨gg, 0, none⟩) (ts.length + 1) cap')) (fun x => K x ∧ x ≠ g ∧ x ≠ gt) (some ⟨br, o, none⟩) (tksC (T.drop i)) := hrow2.keep hs7 fun x hx _ => ⟨hKold x hx.1 hx.2.2, hx⟩
   rw [← HL2.out] at O7
   have S : RdK rk K P g gt d A c s T w i ks (leavesP s T 0 i (i + (k + 1))) (World.setCell w7 ⟨gt, 3, none⟩ (.slice (some ⟨gg, 0, none⟩) (ts.length + 1) cap')) := ⟨hF7, ⟨_, _, R7⟩, ⟨_, _, _, _, _, _, O7⟩, hrow7⟩
   clear O7 hold hsz7 hcm7 hs7 hKold R7 hF7 hrow7 O hp R hA hrow hrow2 hBx e0 e1 e2 e3 bf hg7 hx7 hown7 hgrow hat hlt7 hgl hbl t3 b0 b1 b2 a0 a1 a2 a3 a4 a5 a6 hbx3
   generalize (World.setCell w7 ⟨gt, 3, none⟩ (.slice (some ⟨gg, 0, none⟩) (ts.length + 1) cap')) = w8 at *
   have c1 : IntKind.i64.wrap ((k : Int) + 1) = (k : Int) + 1 := IntWalk.i64_in _ (by have := Hi.out; have := X.hT; have := Hlt.out; omega)
   go_wp2_with fail
   go_roundg (T.length - i - (k + 1))
   case rel => exact ⟨k + 1, by go_num, by have := Hlt.out; omega, Nat.le_refl _, S, hrow8⟩
   case measure => have := Hlt.out; have := Hm.out; omega
  ·have hke : i + k = T.length := by have := Hi.out; omega
   have j1 : ¬ (k : Int) < ((T.length - i : Nat) : Int) := by omega
   have j2 : decide (k < T.length - i) = false := by simpa using hlt
   rw [hke] at S
   clear hke hlt hrow' hk hm
   go_wp2_with fail
   go_ret
   obtain ⟨Av, cv, vs, At, ct, us, O⟩ := S.O
   refine ⟨rfl, S.F, ?_⟩
   rw [Hall.out, ← Hks.out]
   exact O.done (fun _ _ => trivial) (fun _ _ => trivial)
end
end Go.Proofs.YtalklmeejdmifaaGreatDoor
namespace Go.Proofs.YtalklmeejdmifaaGreatDoor
namespace Lx
def mvT (lim til : Nat) (t : Nat × Nat × Nat) : Nat × Nat × Nat := (t.1, t.2.1 + lim - til, t.2.2)
theorem toks_parts (s : List UInt8) (frm til : Nat) (ins : List UInt8) (h1 : frm ≤ til) (h2 : til ≤ s.length) :
  tokR 0 (nowM s frm til ins) = (tokR 0 s).take (headM (tokR 0 s) frm) ++ anewM s frm til ins ++ ((tokR 0 s).drop (behindM s frm til ins)).map (mvT (frm + ins.length) til) ∧
   headM (tokR 0 s) frm ≤ behindM s frm til ins ∧ behindM s frm til ins ≤ (tokR 0 s).length ∧ ∀ j (hj : j < (tokR 0 s).length), behindM s frm til ins ≤ j → til ≤ (tokR 0 s)[j].2.1 := by
 obtain ⟨at', acc', hk, he⟩ := Kp.reach _ _ _ _ (Nat.le_refl _) (Kp.start (ins := ins) h1 h2)
 have hhl := headM_le (tokR 0 s) frm
 have hnow := (now_head s frm til ins (by omega) (headM (tokR 0 s) frm) hhl (fun j hj h => headM_at _ frm j hj h)).1
 have htok : tokR (endM 0 ((tokR 0 s).take (headM (tokR 0 s) frm))) ((nowM s frm til ins).drop (endM 0 ((tokR 0 s).take (headM (tokR 0 s) frm)))) = _ := hk.tok
 rw [htok] at hnow
 rcases he with hs | hs
 ·have hs' := hs
  unfold stopB at hs'
  rw [Bool.and_eq_true, decide_eq_true_eq, List.any_eq_true] at hs'
  obtain ⟨hl, t, hm, he⟩ := hs'
  obtain ⟨k, hkl, rfl⟩ := List.getElem_of_mem hm
  have he : (tokR 0 s)[k].2.1 = at' - (frm + ins.length) + til := by simpa using he
  have he : (tokR 0 s)[k].2.1 + (frm + ins.length) = at' + til := by omega
  obtain ⟨e1, e2⟩ := stay_stop hk.new hk.fin hl hkl he
  rw [stop_rest (fun k => now_drop s frm til ins (by omega) k) hl hkl he] at hnow
  rw [e1, e2]
  refine ⟨by rw [hnow, List.append_assoc]; rfl, ?_, by omega, fun j hj hkj => ?_⟩
  ·apply Nat.le_of_not_lt
   intro hlt
   have := headM_at (tokR 0 s) frm k hkl hlt
   omega
  ·rcases Nat.lt_or_ge k j with h | h
   ·have := tokR_sorted s 0 k j hj h
    omega
   ·obtain rfl : k = j := by omega
    omega
 ·obtain ⟨e1, e2⟩ := stay_end hk.new hk.fin h1 h2 hs
  rw [List.drop_of_length_le (by omega), tokR_nil] at hnow
  rw [e1, e2]
  refine ⟨?_, hhl, Nat.le_refl _, fun j hj hkj => by omega⟩
  rw [hnow, List.drop_of_length_le (Nat.le_refl _), List.map_nil, List.append_assoc]
end Lx
namespace Tr
section
variable (s : List UInt8) (frm til : Nat) (ins : List UInt8)
def mvI (j : Nat) : Nat := j - Lx.behindM s frm til ins + (Lx.headM (Lx.tokR 0 s) frm + (Lx.anewM s frm til ins).length)
variable {s frm til ins} (h1 : frm ≤ til) (h2 : til ≤ s.length)
include h1 h2
theorem tok_head {j : Nat} (hj : j < Lx.headM (Lx.tokR 0 s) frm) : ∃ (h : j < (Lx.tokR 0 s).length) (h' : j < (Lx.tokR 0 (Lx.nowM s frm til ins)).length), (Lx.tokR 0 (Lx.nowM s frm til ins))[j] = (Lx.tokR 0 s)[j] ∧ subT s (Lx.tokR 0 s)[j] = subT (Lx.nowM s frm til ins) (Lx.tokR 0 s)[j] := by
 obtain ⟨e, _, _, _⟩ := Lx.toks_parts s frm til ins h1 h2
 have hl := Lx.headM_le (Lx.tokR 0 s) frm
 have hjl : j < (Lx.tokR 0 s).length := by omega
 have hg : (Lx.tokR 0 (Lx.nowM s frm til ins))[j]? = some (Lx.tokR 0 s)[j] := by
  rw [e, List.append_assoc, List.getElem?_append_left (by rw [List.length_take]; omega), List.getElem?_take, if_pos hj, List.getElem?_eq_getElem hjl]
 obtain ⟨h', e'⟩ := List.getElem?_eq_some_iff.1 hg
 refine ⟨hjl, h', e', ?_⟩
 have ht := Lx.headM_at (Lx.tokR 0 s) frm j hjl hj
 generalize (Lx.tokR 0 s)[j] = t at *
 unfold subT Lx.nowM
 have hx : (s.take frm).length = frm := by rw [List.length_take]; omega
 rw [List.drop_append_of_le_length (by omega), List.take_append_of_le_length (by rw [List.length_drop, hx]; omega), List.drop_take, List.take_take, Nat.min_eq_left (by omega)]
theorem tok_tail {j : Nat} (hj : j < (Lx.tokR 0 s).length) (hb : Lx.behindM s frm til ins ≤ j) : ∃ h' : mvI s frm til ins j < (Lx.tokR 0 (Lx.nowM s frm til ins)).length, (Lx.tokR 0 (Lx.nowM s frm til ins))[mvI s frm til ins j] = Lx.mvT (frm + ins.length) til (Lx.tokR 0 s)[j] ∧ subT s (Lx.tokR 0 s)[j] = subT (Lx.nowM s frm til ins) (Lx.mvT (frm + ins.length) til (Lx.tokR 0 s)[j]) ∧ til ≤ (Lx.tokR 0 s)[j].2.1 := by
 obtain ⟨e, _, _, ht⟩ := Lx.toks_parts s frm til ins h1 h2
 have hl := Lx.headM_le (Lx.tokR 0 s) frm
 have ht := ht j hj hb
 have hg : (Lx.tokR 0 (Lx.nowM s frm til ins))[mvI s frm til ins j]? = some (Lx.mvT (frm + ins.length) til (Lx.tokR 0 s)[j]) := by
  have hlen : ((Lx.tokR 0 s).take (Lx.headM (Lx.tokR 0 s) frm) ++ Lx.anewM s frm til ins).length = Lx.headM (Lx.tokR 0 s) frm + (Lx.anewM s frm til ins).length := by rw [List.length_append, List.length_take]; omega
  rw [e, List.getElem?_append_right (by rw [hlen]; unfold mvI; omega), hlen, List.getElem?_map, List.getElem?_drop]
  rw [show Lx.behindM s frm til ins + (mvI s frm til ins j - (Lx.headM (Lx.tokR 0 s) frm + (Lx.anewM s frm til ins).length)) = j by unfold mvI; omega, List.getElem?_eq_getElem hj]
  rfl
 obtain ⟨h', e'⟩ := List.getElem?_eq_some_iff.1 hg
 refine ⟨h', e', ?_, ht⟩
 generalize (Lx.tokR 0 s)[j] = t at *
 have hd := Lx.now_drop s frm til ins (by omega) (t.2.1 - til)
 unfold subT Lx.mvT
 dsimp only
 rw [show t.2.1 + (frm + ins.length) - til = frm + ins.length + (t.2.1 - til) by omega, hd, show til + (t.2.1 - til) = t.2.1 by omega]
theorem now_count : (Lx.tokR 0 (Lx.nowM s frm til ins)).length = mvI s frm til ins (Lx.tokR 0 s).length := by
 obtain ⟨e, _, hb, _⟩ := Lx.toks_parts s frm til ins h1 h2
 have hl := Lx.headM_le (Lx.tokR 0 s) frm
 have := congrArg List.length e
 rw [List.length_append, List.length_append, List.length_map, List.length_take, List.length_drop] at this
 unfold mvI
 omega
theorem abs_head {o : Nat} (ho : o < Lx.headM (Lx.tokR 0 s) frm) : absP (Lx.nowM s frm til ins) (Lx.tokR 0 (Lx.nowM s frm til ins)) o = absP s (Lx.tokR 0 s) o := by
 obtain ⟨h, h', e, _⟩ := tok_head h1 h2 (ins := ins) ho
 rw [abs_at s _ o h, abs_at _ _ o h', e]
theorem abs_tail {o : Nat} (ho : o ≤ (Lx.tokR 0 s).length) (hb : Lx.behindM s frm til ins ≤ o) : absP (Lx.nowM s frm til ins) (Lx.tokR 0 (Lx.nowM s frm til ins)) (mvI s frm til ins o) + til = absP s (Lx.tokR 0 s) o + (frm + ins.length) ∧ til ≤ absP s (Lx.tokR 0 s) o := by
 have hc := now_count h1 h2 (ins := ins)
 rcases Nat.lt_or_ge o (Lx.tokR 0 s).length with hlt | hge
 ·obtain ⟨h', e, _, ht⟩ := tok_tail h1 h2 hlt hb
  rw [abs_at s _ o hlt, abs_at _ _ _ h', e]
  unfold Lx.mvT
  dsimp only
  omega
 ·obtain rfl : o = (Lx.tokR 0 s).length := by omega
  have hn := Lx.now_len s frm til ins h1 h2
  rw [abs_end s _ _ (Nat.le_refl _), abs_end _ _ _ (by omega), hn]
  omega
theorem agr_head {o : Nat} (ho : o ≤ Lx.headM (Lx.tokR 0 s) frm) : Agr s (Lx.tokR 0 s) (absP s (Lx.tokR 0 s) o) (Lx.nowM s frm til ins) (Lx.tokR 0 (Lx.nowM s frm til ins)) (absP (Lx.nowM s frm til ins) (Lx.tokR 0 (Lx.nowM s frm til ins)) o) o o (Lx.headM (Lx.tokR 0 s) frm - o) False where
 tok := fun x hx => by
  obtain ⟨h, h', e, e2⟩ := tok_head h1 h2 (ins := ins) (by omega : o + x < Lx.headM (Lx.tokR 0 s) frm)
  refine ⟨_, _, List.getElem?_eq_getElem h, List.getElem?_eq_getElem h', by rw [e], by rw [e]; exact e2, ?_⟩
  rw [e, abs_head h1 h2 (by omega)]
 len := by have := Lx.headM_le (Lx.tokR 0 s) frm; omega
 len' := by
  obtain ⟨_, hhb, hb, _⟩ := Lx.toks_parts s frm til ins h1 h2
  rw [now_count h1 h2]
  unfold mvI
  omega
 fin := fun h => h.elim
theorem agr_tail {o : Nat} (ho : o ≤ (Lx.tokR 0 s).length) (hb : Lx.behindM s frm til ins ≤ o) : Agr s (Lx.tokR 0 s) (absP s (Lx.tokR 0 s) o) (Lx.nowM s frm til ins) (Lx.tokR 0 (Lx.nowM s frm til ins)) (absP (Lx.nowM s frm til ins) (Lx.tokR 0 (Lx.nowM s frm til ins)) (mvI s frm til ins o)) o (mvI s frm til ins o) ((Lx.tokR 0 s).length - o) True where
 tok := fun x hx => by
  obtain ⟨h', e, e2, ht⟩ := tok_tail h1 h2 (ins := ins) (by omega : o + x < (Lx.tokR 0 s).length) (by omega)
  obtain ⟨ha, ha2⟩ := abs_tail h1 h2 ho hb
  have em : mvI s frm til ins o + x = mvI s frm til ins (o + x) := by unfold mvI; omega
  refine ⟨_, _, List.getElem?_eq_getElem (by omega), by rw [em]; exact List.getElem?_eq_getElem h', by rw [e]; rfl, by rw [e]; exact e2, ?_⟩
  rw [e]
  unfold Lx.mvT
  dsimp only
  omega
 len := by omega
 len' := by
  rw [now_count h1 h2]
  unfold mvI
  omega
 fin := fun _ => by
  obtain ⟨ha, ha2⟩ := abs_tail h1 h2 ho hb
  have hn := Lx.now_len s frm til ins h1 h2
  rw [now_count h1 h2]
  refine ⟨by omega, by unfold mvI; omega, ?_⟩
  rw [hn]
  omega
end
end Tr
end Go.Proofs.YtalklmeejdmifaaGreatDoor
