/-
  JOINED of the texts ED SU SV
-/
import Derived.Test.YtcjjfeephaddcaaGreatDoorJan
set_option linter.all false
namespace Go.Proofs.YtcjjfeephaddcaaGreatDoor
open Go.RowKit Go.Maps
theorem KeepC.set {T : List TypeId} {w : World} {b i : Nat} {v : Value} {t : TypeId} {cs : Array Value} (hB : Blk w b t cs) (ht : t ∈ T) : KeepC T w (w.setCell ⟨b, i, none⟩ v) :=
 KeepC.grown (grown_set w b i v) fun g cs' t' fr e hk => by
  injection e with e
  subst e
  unfold Blk at hB
  rw [hk] at hB
  injection hB with h1
  injection h1 with _ h1 _
  rw [h1]
  exact ht
theorem KeepC.mono {T T' : List TypeId} {w w' : World} (h : KeepC T w w') (ht : ∀ t ∈ T, t ∈ T') : KeepC T' w w' := fun k cs t fr hk hn => h k cs t fr hk fun h' => hn (ht t h')
def RowAt (w : World) (F : Nat → Prop) (g o : Nat) (l : List Tr.PT) : Prop := (∃ cs fr, w.heap[g]? = some (.cells cs 122 fr)) ∧ ∀ (j : Nat) (p : Tr.PT), l[j]? = some p → ∃ v, w.cell? ⟨g, o + j, none⟩ = some v ∧ PtF w F p v
theorem RowAt.keepC {T : List TypeId} {w w' : World} {F : Nat → Prop} {g o : Nat} {l : List Tr.PT} (h : RowAt w F g o l) (hk : KeepC T w w') (ht : 122 ∉ T ∧ 173 ∉ T ∧ 308 ∉ T ∧ 178 ∉ T) (hp : ∀ p v, p ∈ l → PtF w F p v → PtF w' F p v) : RowAt w' F g o l := by
 obtain ⟨⟨cs, fr, h1⟩, h2⟩ := h
 have h3 := hk g cs _ fr h1 ht.1
 refine ⟨⟨cs, fr, h3⟩, fun j p hj => ?_⟩
 obtain ⟨v, hv, hpv⟩ := h2 j p hj
 exact ⟨v, (World.cell?_of_block (w := w) (a := ⟨g, o + j, none⟩) (h3.trans h1.symm)).trans hv, hp p v (List.mem_of_getElem? hj) hpv⟩
theorem RowAt.of_own {w : World} {F : Nat → Prop} {B : Nat} {A : Option Addr} {c : Nat} {l : List Tr.PT} {vs : List Value} (h : w.ownsRow B 122 1 (.slice A l.length c) l.length vs) (hp : PtsF w F l vs) (hn : 0 < l.length) : ∃ g, A = some ⟨g, 0, none⟩ ∧ B ≤ g ∧ RowAt w F g 0 l := by
 obtain ⟨g, e, hc⟩ := own_at h hn
 subst e
 obtain ⟨cs, fr, hty⟩ := own_ty h g rfl
 refine ⟨g, rfl, (h.lt g rfl).1, ⟨cs, fr, hty⟩, fun j p hj => ?_⟩
 have hlt := (List.getElem?_eq_some_iff.1 hj).1
 obtain ⟨v, hv, hpv⟩ := hp.at_ hlt
 refine ⟨v, by rw [Nat.zero_add]; exact hc j v hv, ?_⟩
 have := (List.getElem?_eq_some_iff.1 hj).2
 rwa [this] at hpv
theorem RowAt.drop1 {w : World} {F : Nat → Prop} {g o : Nat} {x : Tr.PT} {l : List Tr.PT} (h : RowAt w F g o (x :: l)) : RowAt w F g (o + 1) l :=
 ⟨h.1, fun j p hj => by
  have := h.2 (j + 1) p (by simpa using hj)
  rwa [Nat.add_assoc, Nat.add_comm 1 j]⟩
def FO (F : Nat → Prop) (n : Nat) (b : Nat) : Prop := F b ∧ b < n
theorem PtF.fo {w : World} {F : Nat → Prop} {p : Tr.PT} {v : Value} (h : PtF w F p v) : PtF w (FO F w.heap.size) p v := PtF.keep (Nat.le_refl _) (fun _ hb hl => ⟨rfl, hb, hl⟩) _ _ h
theorem PtF.move {w A B : World} {F : Nat → Prop} (hA : Below w.heap.size w A) (hB : Below w.heap.size w B) {p : Tr.PT} {v : Value} (h : PtF A (FO F w.heap.size) p v) : PtF B (FO F w.heap.size) p v :=
 PtF.same (fun b hb => ⟨Nat.lt_of_lt_of_le hb.2 hB.size, (hB.block b hb.2).trans (hA.block b hb.2).symm⟩) p v h
def ItG (w : World) (P F : Nat → Prop) (x : Sc.It) (tw : Bool) (g : Nat) : Prop :=
 F g ∧ (Sc.kindOf x.part = if x.isDef then 4 else 3) ∧ ∃ pb nv A c ev mv me av, Blk w g 234 (itC x tw pb nv A c ev mv me av) ∧ PtF w P x.part (.iface 114 (ptrV pb)) ∧ WdF w F x.name nv ∧
  x.params.length ≤ c ∧ WdR w F A x.params ∧ (∀ br o, A = some ⟨br, o, none⟩ → 0 < x.params.length → ∃ cs fr, w.heap[br]? = some (.cells cs 231 fr)) ∧
  (x.isDef = true → PtF w P x.expr ev) ∧ WdF w F x.mo mv ∧ WdF w F x.me me ∧ WdF w F x.al av
def ItemE (P : Nat → Prop) (x : Sc.It) (w : World) (e : Ending) (w' : World) : Prop := ∃ g, e = .returned (ptrV g) ∧ w.heap.size ≤ g ∧ ItG w' P (fun b => w.heap.size ≤ b) x false g ∧ Below w.heap.size w w'
def kidC (q b f l : Nat) : Array Value := #[ptrV q, .int .i64 (b : Int), .int .i64 (f : Int), .int .i64 (l : Int)]
theorem item_use {n b fi la a : Nat} {l0 r : List Tr.PT} {x0 x1 x2 x3 x4 : Tr.PT} (hB : Sc.bodyOf (.branch 3 a l0) = x0 :: x1 :: x2 :: x3 :: x4 :: r) : Sc.itemM n ⟨.branch 3 a l0, b, fi, la⟩ =
  { file := n, base := b, part := .branch 3 a l0, pub := Sc.isW Tr.sPub (Sc.atP (Sc.senseP (.branch 3 a l0)) 0), isDef := false, name := if Sc.isW Tr.sAs x4 then Sc.wordOf b (Sc.atP r 0) else Sc.wordOf b x3, hasParams := false, params := [], expr := Sc.nonP, has := Sc.isW Tr.sAs x4, mo := Sc.wordOf b x1, me := Sc.wordOf b x3, al := if Sc.isW Tr.sAs x4 then Sc.wordOf b (Sc.atP r 0) else none } := by
 unfold Sc.itemM
 dsimp only
 rw [hB]
 rfl
theorem item_def {n b fi la a : Nat} {l0 r : List Tr.PT} {x0 x1 x2 x3 : Tr.PT} (hB : Sc.bodyOf (.branch 4 a l0) = x0 :: x1 :: x2 :: x3 :: r) : Sc.itemM n ⟨.branch 4 a l0, b, fi, la⟩ =
  { file := n, base := b, part := .branch 4 a l0, pub := Sc.isW Tr.sPub (Sc.atP (Sc.senseP (.branch 4 a l0)) 0), isDef := true, name := Sc.wordOf b x1, hasParams := Sc.isPar x2, params := if Sc.isPar x2 then Sc.wordsOf b x2 else [], expr := if Sc.isPar x2 then Sc.atP r 0 else x3, has := false, mo := none, me := none, al := none } := by
 unfold Sc.itemM
 dsimp only
 rw [hB]
 rfl
def ItS (g o : Nat) (v1 v3 : Value) (w' : World) : Prop := w'.cell? ⟨g, o + 1, none⟩ = some v1 ∧ w'.cell? ⟨g, o + 3, none⟩ = some v3
section
variable {w : World} {F : Nat → Prop}
set_option maxHeartbeats 16000000 in
set_option maxRecDepth 100000 in
theorem sc_itemOf {q : Nat} {p : Tr.Kd} (hp : PtF w F p.part (.iface 114 (ptrV q))) (hx : Sc.ItX p.part) (hlo : lowP p.base p.part) (n : Nat) :
  Calls Tryz.prog 120 #[.int .i64 (n : Int), .agg (kidC q p.base p.first p.last)] w (ItemE F (Sc.itemM n p) w) := by
 obtain ⟨part, b, fi, la⟩ := p
 dsimp only at hp hx hlo ⊢
 have hbr := hx.br
 cases part with
 | leaf _ _ _ => cases hbr
 | gap _ _ _ => cases hbr
 | branch kd at_ l0 =>
 unfold lowP at hlo
 obtain ⟨hll, hlow⟩ := hlo
 have hlen : 3 ≤ (Sc.bodyOf (.branch kd at_ l0)).length := by
  rcases hx.ways with ⟨_, ⟨x0, x1, x2, x3, r, e, _⟩⟩ | ⟨_, ⟨x0, x1, r, e, _, ⟨x3, e1, x5, e2, _⟩ | ⟨p, x3, e1, x5, e2, _⟩⟩⟩
  ·rw [e]; simp
  ·rw [e, e2]; simp
  ·rw [e, e2]; simp
 have hbody : Sc.bodyOf (.branch kd at_ l0) = if Sc.isW Tr.sPub (Sc.atP (Sc.senseL l0) 0) then (Sc.senseL l0).drop 1 else Sc.senseL l0 := rfl
 have Hlen := Lib.hid hlen
 have Hbody := Lib.hid hbody
 have Hlow : Hid (∀ p ∈ Sc.senseL l0, lowP b p) := fun p hp => lows_mem hlow p (sense_mem hp)
 have Hbr : Hid (Sc.isBr (.branch kd at_ l0) = true) := hbr
 have Hx := Lib.hid hx
 have Hp := Lib.hid hp
 clear hlen hbody hlow hbr hx hp
 have hp := Hp.out.fo
 have hd1 : Below w.heap.size w (w.alloc (.cells (kidC q b fi la) 116)) := (Below.refl _ _).alloc (Nat.le_refl _) _
 have hk1 := Blk.new w 116 (kidC q b fi la)
 obtain ⟨kb, hkb⟩ : ∃ kb, kb = w.heap.size := ⟨_, rfl⟩
 rw [← hkb] at hk1
 have Hkb : Hid (kb = w.heap.size) := hkb
 unfold kidC ptrV at *
 go_enter Tryz.func120, Tryz.ntmps120
 go_upto_region 1 with fail
 rw [← hkb]
 have hs1 := World.size_alloc w (.cells #[.pointer (some ⟨q, 0, none⟩), .int .i64 (b : Int), .int .i64 (fi : Int), .int .i64 (la : Int)] 116)
 rw [← hkb] at hs1
 have Hs1 := Lib.hid hs1
 clear hkb hs1
 generalize w.alloc (.cells #[.pointer (some ⟨q, 0, none⟩), .int .i64 (b : Int), .int .i64 (fi : Int), .int .i64 (la : Int)] 116) = w1 at *
 have k0 := hk1.cell 0
 have k1 := hk1.cell 1
 simp at k0 k1
 go_upto_region 2 with fail
 have hd2 := hd1.alloc hd1.size (.cells #[.int .i64 (n : Int), .int .i64 (b : Int), .pointer (some ⟨q, 0, none⟩), .bool false, .bool false, .pointer none, .bool false, .slice none 0 0, .nilIface, .bool false, .pointer none, .pointer none, .pointer none] 234)
 have hk2 := hk1.alloc (.cells #[.int .i64 (n : Int), .int .i64 (b : Int), .pointer (some ⟨q, 0, none⟩), .bool false, .bool false, .pointer none, .bool false, .slice none 0 0, .nilIface, .bool false, .pointer none, .pointer none, .pointer none] 234)
 have hB2 := Blk.new w1 234 #[.int .i64 (n : Int), .int .i64 (b : Int), .pointer (some ⟨q, 0, none⟩), .bool false, .bool false, .pointer none, .bool false, .slice none 0 0, .nilIface, .bool false, .pointer none, .pointer none, .pointer none]
 obtain ⟨ib, hib⟩ : ∃ ib, ib = w1.heap.size := ⟨_, rfl⟩
 have Hib : Hid (w.heap.size ≤ ib) := by show _ ≤ _; rw [hib]; exact hd1.size
 have Hio : Hid (kb < ib) := by show _ < _; rw [hib]; exact hk1.lt
 rw [← hib] at hB2 ⊢
 clear hib k0 k1 hd1 hk1
 generalize w1.alloc (.cells #[.int .i64 (n : Int), .int .i64 (b : Int), .pointer (some ⟨q, 0, none⟩), .bool false, .bool false, .pointer none, .bool false, .slice none 0 0, .nilIface, .bool false, .pointer none, .pointer none, .pointer none] 234) = w2 at *
 have k0 := hk2.cell 0
 simp at k0
 have hp2 : PtF w2 (FO F w.heap.size) (.branch kd at_ l0) (.iface 114 (.pointer (some ⟨q, 0, none⟩))) := PtF.below hp (hd2.mono (Nat.le_refl _))
 have hse := sense_walk hp2 hll
 clear hp hp2
 go_wp2_with fail
 refine hse.mono ?_
 clear hse k0
 rintro e3 w3 ⟨A, c, vs, rfl, hown, hps, hd3⟩
 have hLne : 0 < (Sc.senseL l0).length := by
  have h1 := Hlen.out
  rw [Hbody.out] at h1
  split at h1
  ·rw [List.length_drop] at h1; omega
  ·omega
 have hcap : (Sc.senseL l0).length ≤ c := by
  obtain ⟨A', c', e1, hle, _⟩ := own_cap hown
  injection e1 with _ _ e1
  omega
 obtain ⟨g, rfl, hg2, hrow⟩ := RowAt.of_own hown hps hLne
 have hlb : (Sc.senseL l0).length ≤ 1000000000 := Nat.le_trans (List.length_filter_le _ _) hll
 have hd3' := hd2.trans (hd3.mono hd2.size)
 have hk3 := hk2.below hd3 hk2.lt
 have hB3 := hB2.below hd3 hB2.lt
 have Hgi : Hid (ib < g) := by show _ < _; exact Nat.lt_of_lt_of_le hB2.lt hg2
 have HL : Hid (Sc.senseP (.branch kd at_ l0) = Sc.senseL l0) := rfl
 clear hd2 hd3 hk2 hB2 hown hps hg2
 cases hL : Sc.senseL l0 with
 | nil => rw [hL] at hLne; exact absurd hLne (by simp)
 | cons x L =>
 rw [hL] at hrow hlb hcap Hbody Hlow HL
 have Hcap := Lib.hid hcap
 have Hlb := Lib.hid hlb
 simp only [List.length_cons]
 clear hL hLne hlb hcap
 obtain ⟨v0, hv0, hp0⟩ := hrow.2 0 x rfl
 have hw0 := sc_word hp0 (kb := kb) (b := b) (by have := hk3.cell 1; simpa using this) (fun k t a e => by have := Hlow.out x (by simp); rw [e] at this; unfold lowP at this; exact this.1)
 go_wp2_with fail
 refine hw0.mono ?_
 clear hw0 hv0
 rintro e4 w4 ⟨u, rfl, hu, hd4⟩
 have hd4' := hd3'.trans (hd4.mono hd3'.size)
 have hk4 := hk3.below hd4 hk3.lt
 have hB4 := hB3.below hd4 hB3.lt
 have hrow4 : RowAt w4 (FO F w.heap.size) g 0 (x :: L) := hrow.keepC (T := []) (KeepC.below hd4) (by simp) fun p v _ h => h.below hd4
 clear hd3' hk3 hB3 hrow hd4 hp0
 go_upto_region 5 with fail
 go_cut [38] (fun s wc => s = .bool (Sc.isW Tr.sPub x) ∧ wc = w4)
 case first =>
  cases x with
  | leaf k t a =>
   obtain ⟨gu, rfl, _, huB⟩ := hu
   have u0 := huB.cell 0
   simp at u0
   go_wp2_with fail
   go_meet
   exact ⟨rfl, rfl⟩
  | gap t a d =>
   obtain rfl : u = .pointer none := hu
   go_wp2_with fail
   go_meet
   exact ⟨rfl, rfl⟩
  | branch k a l =>
   obtain rfl : u = .pointer none := hu
   go_wp2_with fail
   go_meet
   exact ⟨rfl, rfl⟩
 case rest =>
  obtain ⟨rfl, rfl⟩ := hcut
  clear hu
  have Hpub : Hid (Sc.isW Tr.sPub (Sc.atP (Sc.senseP (.branch kd at_ l0)) 0) = Sc.isW Tr.sPub x) := by show _ = _; rw [HL.out]; rfl
  have Hbody : Hid (Sc.bodyOf (.branch kd at_ l0) = if Sc.isW Tr.sPub x then L else x :: L) := Hbody.out
  generalize Sc.isW Tr.sPub x = pub at *
  generalize wc = w5 at *
  go_upto_if 38 with fail
  go_cut [6] (fun s wx => ∃ o c', s = .slice (some ⟨g, o, none⟩) (Sc.bodyOf (.branch kd at_ l0)).length c' ∧ (Sc.bodyOf (.branch kd at_ l0)).length ≤ c' ∧ RowAt wx (FO F w.heap.size) g o (Sc.bodyOf (.branch kd at_ l0)) ∧
   Blk wx kb 116 #[.pointer (some ⟨q, 0, none⟩), .int .i64 (b : Int), .int .i64 (fi : Int), .int .i64 (la : Int)] ∧
   Blk wx ib 234 #[.int .i64 (n : Int), .int .i64 (b : Int), .pointer (some ⟨q, 0, none⟩), .bool pub, .bool false, .pointer none, .bool false, .slice none 0 0, .nilIface, .bool false, .pointer none, .pointer none, .pointer none] ∧ Below w.heap.size w wx)
  case first =>
   cases pub with
   | false =>
    have Hbody : Hid (Sc.bodyOf (.branch kd at_ l0) = x :: L) := Hbody.out
    go_wp2_with fail
    go_meet
    rw [Hbody.out]
    exact ⟨0, c, rfl, Hcap.out, hrow4, hk4, hB4, hd4'⟩
   | true =>
    have Hb2 : Hid (Sc.bodyOf (.branch kd at_ l0) = L) := Hbody.out
    have y3 := hB4.frozen 3
    have x3 := hB4.cell 3
    simp at x3
    have hc1 : ¬ c = 1 := by
     have h1 := Hlen.out
     rw [Hb2.out] at h1
     have h2 := Hcap.out
     rw [List.length_cons] at h2
     omega
    go_wp2_with fail
    go_meet
    have hk5 := hk4.far (p := ⟨ib, 3, none⟩) (Nat.ne_of_lt Hio.out) (.bool true)
    have hB5 := hB4.set_ 3 (.bool true)
    simp at hB5
    have hd5 := hd4'.setCell (p := ⟨ib, 3, none⟩) Hib.out (.bool true)
    have hrow5 := hrow4.keepC (T := [234]) (KeepC.set hB4 (by simp) (i := 3) (v := .bool true)) (by decide) fun p v hp h => PtF.move hd4' hd5 h
    have hcl : L.length ≤ c - 1 := by have := Hcap.out; rw [List.length_cons] at this; omega
    rw [Hb2.out]
    exact ⟨1, c - 1, rfl, hcl, hrow5.drop1, hk5, hB5, hd5⟩
  case rest =>
   obtain ⟨o, c', rfl, hcap, hrow, hk, hB, hd⟩ := hcut
   have Hbl : Hid (∀ p ∈ Sc.bodyOf (.branch kd at_ l0), lowP b p) := fun p hp => by
    have h1 := Hbody.out
    rw [h1] at hp
    split at hp
    ·exact Hlow.out p (List.mem_cons_of_mem _ hp)
    ·exact Hlow.out p hp
   clear hrow4 hk4 hB4 hd4' Hcap Hlb Hbody Hlen Hlow HL
   generalize wc = w6 at *
   have hpB : PtF w6 (FO F w.heap.size) (.branch kd at_ l0) (.iface 114 (.pointer (some ⟨q, 0, none⟩))) := PtF.below Hp.out.fo hd
   have hpB0 := hpB
   obtain ⟨q', eq, _, Aq, cq, vq, hqB, _⟩ := hpB0
   injection eq with _ eq
   injection eq with eq
   injection eq with eq
   injection eq with eq
   subst eq
   have hdf := sc_def (w := w6) (g := ib) (pb := q) (kd := kd) (by have := hB.cell 2; simpa using this) (by have := hqB.cell 0; simpa using this)
   have hways := Hx.out.ways
   clear hqB hpB
   rcases hways with ⟨h3, hU⟩ | ⟨h4, hD⟩
   ·obtain rfl : kd = 3 := h3
    obtain ⟨x0, x1, x2, x3, r, hBe, n1, n3, hr⟩ := hU.ex
    obtain ⟨x4, r2, hr4, hr5⟩ : ∃ x4 r2, r = x4 :: r2 ∧ ((Sc.isW Tr.sAs x4 = false) ∨ ∃ x5 r3, r2 = x5 :: r3 ∧ Sc.isW Tr.sAs x4 = true) := by
     rcases hr with ⟨x4, rfl, h4⟩ | ⟨x4, x5, x6, rfl, h4, h5⟩
     ·exact ⟨x4, [], rfl, .inl h4⟩
     ·exact ⟨x4, [x5, x6], rfl, .inr ⟨x5, [x6], rfl, h4⟩⟩
    subst hr4
    have Hit := Lib.hid (item_use (n := n) (b := b) (fi := fi) (la := la) hBe)
    rw [hBe] at hcap hrow Hbl ⊢
    have Hr5 := Lib.hid hr5
    have hdf : Calls Tryz.prog 121 #[.pointer (some ⟨ib, 0, none⟩)] w6 (TestE false w6) := hdf
    clear hU n1 n3 hr hr5 hBe
    have Hrow := Lib.hid hrow
    have Hk := Lib.hid hk
    have HB := Lib.hid hB
    have Hd := Lib.hid hd
    have Hcap := Lib.hid hcap
    clear hrow hk hB hd hcap
    generalize hN : (x0 :: x1 :: x2 :: x3 :: x4 :: r2).length = N at *
    have HN := Lib.hid hN
    have i1 : (1 : Int) < (N : Int) := by rw [← hN]; simp; omega
    have i3 : (3 : Int) < (N : Int) := by rw [← hN]; simp; omega
    have i4 : (4 : Int) < (N : Int) := by rw [← hN]; simp; omega
    have j1 : 1 < N := by omega
    have j3 : 3 < N := by omega
    have j4 : 4 < N := by omega
    clear hN
    go_wp2_with fail
    refine hdf.mono ?_
    clear hdf
    rintro e7 w7 ⟨rfl, hd7⟩
    have hK7 : KeepC [234] w6 w7 := KeepC.below hd7
    have hd7' := Hd.out.trans (hd7.mono Hd.out.size)
    have hrow7 := Hrow.out.keepC hK7 (by decide) fun p v _ h => PtF.move Hd.out hd7' h
    have hk7 := Hk.out.keepC hK7 (by decide)
    have hB7 := HB.out.below hd7 HB.out.lt
    clear Hrow Hk HB Hd hd7 hK7
    obtain ⟨v1, hv1, hp1⟩ := hrow7.2 1 x1 rfl
    obtain ⟨v3, hv3, hp3⟩ := hrow7.2 3 x3 rfl
    go_upto_region 9 with fail
    refine wp_region_G 100 (ItS g o v1 v3) (by kernel_rfl) ?_
    have hd8 := hd7'.drew
    have hrow8 : RowAt w7.drew (FO F w.heap.size) g o (x0 :: x1 :: x2 :: x3 :: x4 :: r2) := hrow7.keepC (T := []) (KeepC.below ((Below.refl _ _).drew)) (by simp) fun p v _ h => PtF.move hd7' hd8 h
    have hk8 := hk7.drew
    have hB8 := hB7.drew
    have hp18 := PtF.move hd7' hd8 hp1
    have hp38 := PtF.move hd7' hd8 hp3
    have hS0 : ItS g o v1 v3 w7.drew := ⟨hv1, hv3⟩
    clear hrow7 hk7 hB7 hd7' hv1 hv3 hp1 hp3
    generalize w7.drew = w8 at *
    unfold ItS at *
    refine wpAnyG_tk 0 hS0 ?_
    simp only [Act.put, List.setIfInBounds_toArray]
    refine wpAnyG_tk 2 hS0 ?_
    simp only [Act.put]
    refine wpAnyG_tk 3 hS0 ?_
    simp only [Act.put]
    refine wpAnyG_tk 4 hS0 ?_
    simp only [Act.put]
    refine wpAnyG_tk 5 hS0 ?_
    simp only [Act.put]
    refine wpAnyG_tk 7 hS0 ?_
    simp only [Act.put]
    refine wpAnyG_tk 8 hS0 ?_
    simp only [Act.put]
    refine wpAnyG_tk 9 hS0 ?_
    simp only [Act.put]
    refine wpAnyG_tk 10 hS0 ?_
    simp only [Act.put]
    refine wpAnyG_tk 1 hS0 ?_
    simp only [Act.put]
    have hw1 := sc_word hp18 (kb := kb) (b := b) (by have := hk8.cell 1; simpa using this) (fun k t a e => by have := Hbl.out x1 (by simp); rw [e] at this; unfold lowP at this; exact this.1)
    refine wpAnyG_on 6 fun C hC => ?_
    go_simp
    refine hw1.mono ?_
    clear hw1
    rintro e9 w9 ⟨u1, rfl, hu1, hd9⟩
    have hS9 : ItS g o v1 v3 w9 := ⟨(hd9.cell (p := ⟨g, o + 1, none⟩) (World.block_lt_of_cell? w8 _ hS0.1)).trans hS0.1, (hd9.cell (p := ⟨g, o + 3, none⟩) (World.block_lt_of_cell? w8 _ hS0.2)).trans hS0.2⟩
    unfold ItS at hS9
    have hd9' := hd8.trans (hd9.mono hd8.size)
    have hrow9 : RowAt w9 (FO F w.heap.size) g o (x0 :: x1 :: x2 :: x3 :: x4 :: r2) := hrow8.keepC (T := []) (KeepC.below hd9) (by simp) fun p v _ h => PtF.move hd8 hd9' h
    have hk9 := hk8.below hd9 hk8.lt
    have hB9 := hB8.below hd9 hB8.lt
    have hp39 := PtF.move hd8 hd9' hp38
    have hu1' := hu1.mono (F' := fun b => w.heap.size ≤ b) fun b hb => Nat.le_trans hd8.size hb
    refine hC.out _ _ (fun _ => hS9) ?_
    clear hC C hS0 hrow8 hk8 hB8 hp18 hp38 hd8 hu1 hd9
    have hw3 := sc_word hp39 (kb := kb) (b := b) (by have := hk9.cell 1; simpa using this) (fun k t a e => by have := Hbl.out x3 (by simp); rw [e] at this; unfold lowP at this; exact this.1)
    refine wpAnyG_on 11 fun C hC => ?_
    go_simp
    refine hw3.mono ?_
    clear hw3
    rintro e10 w10 ⟨u3, rfl, hu3, hd10⟩
    have hS10 : ItS g o v1 v3 w10 := ⟨(hd10.cell (p := ⟨g, o + 1, none⟩) (World.block_lt_of_cell? w9 _ hS9.1)).trans hS9.1, (hd10.cell (p := ⟨g, o + 3, none⟩) (World.block_lt_of_cell? w9 _ hS9.2)).trans hS9.2⟩
    unfold ItS at hS10
    have hd10' := hd9'.trans (hd10.mono hd9'.size)
    have hrow10 : RowAt w10 (FO F w.heap.size) g o (x0 :: x1 :: x2 :: x3 :: x4 :: r2) := hrow9.keepC (T := []) (KeepC.below hd10) (by simp) fun p v _ h => PtF.move hd9' hd10' h
    have hk10 := hk9.below hd10 hk9.lt
    have hB10 := hB9.below hd10 hB9.lt
    have hu1 := hu1'.below hd10
    have hu3' := hu3.mono (F' := fun b => w.heap.size ≤ b) fun b hb => Nat.le_trans hd9'.size hb
    refine hC.out _ _ (fun _ => hS10) ?_
    clear hC C hS9 hrow9 hk9 hB9 hp39 hd9' hd10 hu1' hu3
    obtain ⟨pu1, rfl⟩ := hu1.ptr
    obtain ⟨pu3, rfl⟩ := hu3'.ptr
    refine wpAnyG_tk 12 hS10 ?_
    simp only [Act.put]
    refine wpAnyG_tk 13 hS10 ?_
    simp only [Act.put]
    have x10 := hB10.cell 10
    have y10 := hB10.frozen 10
    simp at x10
    have HB11 := Lib.hid (hB10.set_ 10 (.pointer pu1))
    have Hgb : Hid (g ≠ ib) := by have := Hgi.out; show _ ≠ _; omega
    have HS11 : Hid (ItS g o v1 v3 (w10.setCell ⟨ib, 10, none⟩ (.pointer pu1))) := ⟨(World.cell?_of_block (a := ⟨g, o + 1, none⟩) (Below.heap_setCell w10 ⟨ib, 10, none⟩ _ g Hgb.out)).trans hS10.1, (World.cell?_of_block (a := ⟨g, o + 3, none⟩) (Below.heap_setCell w10 ⟨ib, 10, none⟩ _ g Hgb.out)).trans hS10.2⟩
    unfold ItS at HS11
    clear hS10
    refine wpAnyG_on 14 fun C hC => ?_
    go_simp
    refine hC.out _ _ (fun _ => HS11.out) ?_
    clear hC C
    have hd11 := hd10'.setCell (p := ⟨ib, 10, none⟩) Hib.out (.pointer pu1)
    have hK11 : KeepC [234] w10 (w10.setCell ⟨ib, 10, none⟩ (.pointer pu1)) := KeepC.set hB10 (by simp)
    have hB11 := HB11.out
    simp at hB11
    have hrow11 := hrow10.keepC hK11 (by decide) fun p v _ h => PtF.move hd10' hd11 h
    have hk11 := hk10.keepC hK11 (by decide)
    have hu11 := hu1.keepC hK11 (by decide)
    have hu31 := hu3'.keepC hK11 (by decide)
    have hS11 := HS11.out
    clear HS11 HB11 x10 y10 hB10 hd10' hK11 hrow10 hk10 hu1 hu3'
    generalize w10.setCell ⟨ib, 10, none⟩ (.pointer pu1) = w11 at *
    refine wpAnyG_tk 15 hS11 ?_
    simp only [Act.put]
    refine wpAnyG_tk 16 hS11 ?_
    simp only [Act.put]
    have x11 := hB11.cell 11
    have y11 := hB11.frozen 11
    simp at x11
    have HB12 := Lib.hid (hB11.set_ 11 (.pointer pu3))
    have HS12 : Hid (ItS g o v1 v3 (w11.setCell ⟨ib, 11, none⟩ (.pointer pu3))) := ⟨(World.cell?_of_block (a := ⟨g, o + 1, none⟩) (Below.heap_setCell w11 ⟨ib, 11, none⟩ _ g Hgb.out)).trans hS11.1, (World.cell?_of_block (a := ⟨g, o + 3, none⟩) (Below.heap_setCell w11 ⟨ib, 11, none⟩ _ g Hgb.out)).trans hS11.2⟩
    unfold ItS at HS12
    clear hS11
    refine wpAnyG_on 17 fun C hC => ?_
    go_simp
    refine hC.out _ _ (fun _ => HS12.out) ?_
    clear hC C
    have hd12 := hd11.setCell (p := ⟨ib, 11, none⟩) Hib.out (.pointer pu3)
    have hK12 : KeepC [234] w11 (w11.setCell ⟨ib, 11, none⟩ (.pointer pu3)) := KeepC.set hB11 (by simp)
    have hB12 := HB12.out
    simp at hB12
    have hrow12 := hrow11.keepC hK12 (by decide) fun p v _ h => PtF.move hd11 hd12 h
    have hk12 := hk11.keepC hK12 (by decide)
    have hu12 := hu11.keepC hK12 (by decide)
    have hu32 := hu31.keepC hK12 (by decide)
    clear HS12 HB12 x11 y11 hB11 hd11 hK12 hrow11 hk11 hu11 hu31
    generalize w11.setCell ⟨ib, 11, none⟩ (.pointer pu3) = w12 at *
    refine wpAnyG_done (by kernel_rfl) ?_ _
    have x11 := hB12.cell 11
    have x5 := hB12.cell 5
    have y5 := hB12.frozen 5
    simp at x11 x5
    go_upto_region 11 with fail
    have hd13 := hd12.setCell (p := ⟨ib, 5, none⟩) Hib.out (.pointer pu3)
    have hK13 : KeepC [234] w12 (w12.setCell ⟨ib, 5, none⟩ (.pointer pu3)) := KeepC.set hB12 (by simp)
    have hB13 := hB12.set_ 5 (.pointer pu3)
    simp at hB13
    have hrow13 := hrow12.keepC hK13 (by decide) fun p v _ h => PtF.move hd12 hd13 h
    have hk13 := hk12.keepC hK13 (by decide)
    have hu13 := hu12.keepC hK13 (by decide)
    have hu33 := hu32.keepC hK13 (by decide)
    clear x11 x5 y5 hB12 hd12 hK13 hrow12 hk12 hu12 hu32
    generalize w12.setCell ⟨ib, 5, none⟩ (.pointer pu3) = w13 at *
    obtain ⟨v4, hv4, hp4⟩ := hrow13.2 4 x4 rfl
    have hw4 := sc_word hp4 (kb := kb) (b := b) (by have := hk13.cell 1; simpa using this) (fun k t a e => by have := Hbl.out x4 (by simp); rw [e] at this; unfold lowP at this; exact this.1)
    go_wp2_with fail
    refine hw4.mono ?_
    clear hw4 hv4 hp4
    rintro e14 w14 ⟨u4, rfl, hu4, hd14⟩
    have hd14' := hd13.trans (hd14.mono hd13.size)
    have hrow14 : RowAt w14 (FO F w.heap.size) g o (x0 :: x1 :: x2 :: x3 :: x4 :: r2) := hrow13.keepC (T := []) (KeepC.below hd14) (by simp) fun p v _ h => PtF.move hd13 hd14' h
    have hk14 := hk13.below hd14 hk13.lt
    have hB14 := hB13.below hd14 hB13.lt
    have hu14 := hu13.below hd14
    have hu34 := hu33.below hd14
    clear hd13 hrow13 hk13 hB13 hu13 hu33 hd14
    go_upto_region 12 with fail
    go_cut [83] (fun s wc => s = .bool (Sc.isW Tr.sAs x4) ∧ wc = w14)
    case first =>
     cases x4 with
     | leaf k t a =>
      obtain ⟨gu, rfl, _, huB⟩ := hu4
      have u0 := huB.cell 0
      simp at u0
      go_wp2_with fail
      go_meet
      exact ⟨rfl, rfl⟩
     | gap t a d =>
      obtain rfl : u4 = .pointer none := hu4
      go_wp2_with fail
      go_meet
      exact ⟨rfl, rfl⟩
     | branch k a l =>
      obtain rfl : u4 = .pointer none := hu4
      go_wp2_with fail
      go_meet
      exact ⟨rfl, rfl⟩
    case rest =>
     obtain ⟨rfl, rfl⟩ := hcut
     clear hu4
     have Hpu := Lib.hid Hpub.out
     cases hA : Sc.isW Tr.sAs x4 with
     | false =>
      have HA := Lib.hid hA
      clear hA
      go_wp2_with fail
      go_ret
      rw [Hit.out, Hpu.out, HA.out]
      refine ⟨ib, rfl, Hib.out, ⟨Hib.out, rfl, q, .pointer pu3, none, 0, .nilIface, .pointer pu1, .pointer pu3, .pointer none, hB14, ?_, ?_, Nat.le_refl _, ⟨[], fun hn => absurd hn (by simp), rfl⟩, fun br o e hl => absurd hl (by simp), fun hd => (by cases hd), ?_, ?_, rfl⟩, hd14'⟩
      ·exact PtF.below Hp.out hd14'
      ·exact hu34
      ·exact hu14
      ·exact hu34
     | true =>
      obtain ⟨x5, r3, rfl, _⟩ : ∃ x5 r3, r2 = x5 :: r3 ∧ Sc.isW Tr.sAs x4 = true := by
       rcases Hr5.out with h | h
       ·rw [h] at hA; cases hA
       ·exact h
      have HA := Lib.hid hA
      clear hA Hr5
      have i5 : (5 : Int) < (N : Int) := by rw [← HN.out]; simp; omega
      have j5 : 5 < N := by rw [← HN.out]; simp
      obtain ⟨v5, hv5, hp5⟩ := hrow14.2 5 x5 rfl
      have hw5 := sc_word hp5 (kb := kb) (b := b) (by have := hk14.cell 1; simpa using this) (fun k t a e => by have := Hbl.out x5 (by simp); rw [e] at this; unfold lowP at this; exact this.1)
      go_wp2_with fail
      refine hw5.mono ?_
      clear hw5 hv5 hp5 hrow14
      rintro e15 w15 ⟨u5, rfl, hu5, hd15⟩
      have hd15' := hd14'.trans (hd15.mono hd14'.size)
      have hB15 := hB14.below hd15 hB14.lt
      have hu15 := hu14.below hd15
      have hu35 := hu34.below hd15
      have hu5 := hu5.mono (F' := fun b => w.heap.size ≤ b) fun b hb => Nat.le_trans hd14'.size hb
      obtain ⟨pu5, rfl⟩ := hu5.ptr
      clear hd14' hB14 hu14 hu34 hd15
      have x9 := hB15.cell 9
      have x12 := hB15.cell 12
      have y9 := hB15.frozen 9
      have y12 := hB15.frozen 12
      simp at x9 x12
      go_upto_region 14 with fail
      have hd16 := (hd15'.setCell (p := ⟨ib, 9, none⟩) Hib.out (.bool true)).setCell (p := ⟨ib, 12, none⟩) Hib.out (.pointer pu5)
      have hB9 := hB15.set_ 9 (.bool true)
      have hK16 : KeepC [234] w15 ((w15.setCell ⟨ib, 9, none⟩ (.bool true)).setCell ⟨ib, 12, none⟩ (.pointer pu5)) := (KeepC.set hB15 (by simp)).trans (KeepC.set hB9 (by simp))
      have hB16 := hB9.set_ 12 (.pointer pu5)
      simp at hB16
      have hu16 := hu15.keepC hK16 (by decide)
      have hu36 := hu35.keepC hK16 (by decide)
      have hu56 := (hu5.keepC hK16 (by decide))
      clear x9 x12 y9 y12 hB9 hB15 hd15' hK16 hu15 hu35 hu5
      generalize (w15.setCell ⟨ib, 9, none⟩ (.bool true)).setCell ⟨ib, 12, none⟩ (.pointer pu5) = w16 at *
      have x12 := hB16.cell 12
      have x5c := hB16.cell 5
      have y5 := hB16.frozen 5
      simp at x12 x5c
      go_wp2_with fail
      have hd17 := hd16.setCell (p := ⟨ib, 5, none⟩) Hib.out (.pointer pu5)
      have hK17 : KeepC [234] w16 (w16.setCell ⟨ib, 5, none⟩ (.pointer pu5)) := KeepC.set hB16 (by simp)
      have hB17 := hB16.set_ 5 (.pointer pu5)
      simp at hB17
      have hu17 := hu16.keepC hK17 (by decide)
      have hu37 := hu36.keepC hK17 (by decide)
      have hu57 := hu56.keepC hK17 (by decide)
      clear x12 x5c y5 hB16 hd16 hK17 hu16 hu36 hu56
      generalize w16.setCell ⟨ib, 5, none⟩ (.pointer pu5) = w17 at *
      go_ret
      rw [Hit.out, Hpu.out, HA.out]
      refine ⟨ib, rfl, Hib.out, ⟨Hib.out, rfl, q, .pointer pu5, none, 0, .nilIface, .pointer pu1, .pointer pu3, .pointer pu5, hB17, ?_, ?_, Nat.le_refl _, ⟨[], fun hn => absurd hn (by simp), rfl⟩, fun br o e hl => absurd hl (by simp), fun hd => (by cases hd), ?_, ?_, ?_⟩, hd17⟩
      ·exact PtF.below Hp.out hd17
      ·exact hu57
      ·exact hu17
      ·exact hu37
      ·exact hu57
   ·obtain rfl : kd = 4 := h4
    obtain ⟨x0, x1, r, hBe, n1, hr⟩ := hD.ex
    obtain ⟨x2, x3, r2, rfl, hr2⟩ : ∃ x2 x3 r2, r = x2 :: x3 :: r2 ∧ ((Sc.isBr x2 = false) ∨ (∃ e r3, r2 = e :: r3 ∧ Sc.isBr x2 = true ∧ Sc.kindOf x2 = 6)) := by
     rcases hr with ⟨x3, e, x5, rfl, h1, _⟩ | ⟨p, x3, e, x5, rfl, h1, h2, _⟩
     ·exact ⟨x3, e, [x5], rfl, .inl h1⟩
     ·exact ⟨p, x3, [e, x5], rfl, .inr ⟨e, [x5], rfl, h1, h2⟩⟩
    have Hit := Lib.hid (item_def (n := n) (b := b) (fi := fi) (la := la) hBe)
    rw [hBe] at hcap hrow Hbl ⊢
    have Hr2 := Lib.hid hr2
    have hdf : Calls Tryz.prog 121 #[.pointer (some ⟨ib, 0, none⟩)] w6 (TestE true w6) := hdf
    clear hD n1 hr hr2 hBe
    have Hrow := Lib.hid hrow
    have Hk := Lib.hid hk
    have HB := Lib.hid hB
    have Hd := Lib.hid hd
    have Hcap := Lib.hid hcap
    clear hrow hk hB hd hcap
    generalize hN : (x0 :: x1 :: x2 :: x3 :: r2).length = N at *
    have HN := Lib.hid hN
    have i1 : (1 : Int) < (N : Int) := by rw [← hN]; simp; omega
    have i2 : (2 : Int) < (N : Int) := by rw [← hN]; simp; omega
    have i3 : (3 : Int) < (N : Int) := by rw [← hN]; simp; omega
    have j1 : 1 < N := by omega
    have j2 : 2 < N := by omega
    have j3 : 3 < N := by omega
    clear hN
    go_wp2_with fail
    refine hdf.mono ?_
    clear hdf
    rintro e7 w7 ⟨rfl, hd7⟩
    have hK7 : KeepC [234] w6 w7 := KeepC.below hd7
    have hd7' := Hd.out.trans (hd7.mono Hd.out.size)
    have hrow7 := Hrow.out.keepC hK7 (by decide) fun p v _ h => PtF.move Hd.out hd7' h
    have hk7 := Hk.out.keepC hK7 (by decide)
    have hB7 := HB.out.below hd7 HB.out.lt
    clear Hrow Hk HB Hd hd7 hK7
    obtain ⟨v1, hv1, hp1⟩ := hrow7.2 1 x1 rfl
    have hw1 := sc_word hp1 (kb := kb) (b := b) (by have := hk7.cell 1; simpa using this) (fun k t a e => by have := Hbl.out x1 (by simp); rw [e] at this; unfold lowP at this; exact this.1)
    go_wp2_with fail
    refine hw1.mono ?_
    clear hw1 hv1 hp1
    rintro e8 w8 ⟨u1, rfl, hu1, hd8⟩
    have hd8' := hd7'.trans (hd8.mono hd7'.size)
    have hrow8 : RowAt w8 (FO F w.heap.size) g o (x0 :: x1 :: x2 :: x3 :: r2) := hrow7.keepC (T := []) (KeepC.below hd8) (by simp) fun p v _ h => PtF.move hd7' hd8' h
    have hk8 := hk7.below hd8 hk7.lt
    have hB8 := hB7.below hd8 hB7.lt
    have hu1 := hu1.mono (F' := fun b => w.heap.size ≤ b) fun b hb => Nat.le_trans hd7'.size hb
    obtain ⟨pu1, rfl⟩ := hu1.ptr
    clear hd7' hrow7 hk7 hB7 hd8
    have x5 := hB8.cell 5
    have y5 := hB8.frozen 5
    simp at x5
    go_upto_region 17 with fail
    have hd9 := hd8'.setCell (p := ⟨ib, 5, none⟩) Hib.out (.pointer pu1)
    have hK9 : KeepC [234] w8 (w8.setCell ⟨ib, 5, none⟩ (.pointer pu1)) := KeepC.set hB8 (by simp)
    have hB9 := hB8.set_ 5 (.pointer pu1)
    simp at hB9
    have hrow9 := hrow8.keepC hK9 (by decide) fun p v _ h => PtF.move hd8' hd9 h
    have hk9 := hk8.keepC hK9 (by decide)
    have hu9 := hu1.keepC hK9 (by decide)
    clear x5 y5 hB8 hd8' hK9 hrow8 hk8 hu1
    generalize w8.setCell ⟨ib, 5, none⟩ (.pointer pu1) = w9 at *
    have Hpu := Lib.hid Hpub.out
    rcases Hr2.out with hb2 | ⟨ee, r3, rfl, hb2, hk2⟩
    ·obtain ⟨v2, hv2, hp2⟩ := hrow9.2 2 x2 rfl
     obtain ⟨v3, hv3, hp3⟩ := hrow9.2 3 x3 rfl
     obtain ⟨kd3, g3, rfl⟩ := hp3.form
     have has : ∀ w, (Instr.typeAssert v2 122 114 true).run Tryz.prog w = .ok (.tuple #[.pointer none, .bool false]) w := by
      cases x2 with
      | leaf k t a => obtain ⟨g2, rfl, _⟩ := hp2; exact fun w => as_leaf_branch ⟨g2, 0, none⟩ w
      | gap t a d => obtain ⟨g2, rfl, _⟩ := hp2; exact fun w => as_gap_branch ⟨g2, 0, none⟩ w
      | branch k a m => cases hb2
     have Hpar : Hid (Sc.isPar x2 = false) := by show _ = _; unfold Sc.isPar; rw [hb2]; rfl
     have x8 := hB9.cell 8
     have y8 := hB9.frozen 8
     simp at x8
     clear hb2 Hr2
     go_wp2_with fail
     have hd10 := hd9.setCell (p := ⟨ib, 8, none⟩) Hib.out (.iface kd3 (.pointer (some ⟨g3, 0, none⟩)))
     have hK10 : KeepC [234] w9 (w9.setCell ⟨ib, 8, none⟩ (.iface kd3 (.pointer (some ⟨g3, 0, none⟩)))) := KeepC.set hB9 (by simp)
     have hB10 := hB9.set_ 8 (.iface kd3 (.pointer (some ⟨g3, 0, none⟩)))
     simp at hB10
     have hu10 := hu9.keepC hK10 (by decide)
     have hp10 := PtF.move hd9 hd10 hp3
     clear x8 y8 hv2 hv3 hp2 hp3 has hB9 hd9 hu9
     generalize w9.setCell ⟨ib, 8, none⟩ (.iface kd3 (.pointer (some ⟨g3, 0, none⟩))) = w10 at *
     go_ret
     rw [Hit.out, Hpu.out, Hpar.out]
     refine ⟨ib, rfl, Hib.out, ⟨Hib.out, rfl, q, .pointer pu1, none, 0, .iface kd3 (.pointer (some ⟨g3, 0, none⟩)), .pointer none, .pointer none, .pointer none, hB10, ?_, ?_, Nat.le_refl _, ⟨[], fun hn => absurd hn (by simp), rfl⟩, fun br o e hl => absurd hl (by simp), fun _ => ?_, rfl, rfl, rfl⟩, hd10⟩
     ·exact PtF.below Hp.out hd10
     ·exact hu10
     ·exact PtF.keep (Nat.le_refl _) (fun b hb _ => ⟨rfl, hb.1⟩) _ _ hp10
    ·cases x2 with
     | leaf k t a => cases hb2
     | gap t a d => cases hb2
     | branch k2 a2 m =>
     obtain rfl : k2 = 6 := hk2
     obtain ⟨v2, hv2, hp2⟩ := hrow9.2 2 _ rfl
     have hp20 := hp2
     obtain ⟨q2, rfl, _, A2, c2, vs2, hqB2, _⟩ := hp20
     have has := fun w => as_branch_branch ⟨q2, 0, none⟩ w
     have q20 := hqB2.cell 0
     simp at q20
     have hlo2 := Hbl.out (.branch 6 a2 m) (by simp)
     unfold lowP at hlo2
     have Hpar : Hid (Sc.isPar (.branch 6 a2 m) = true) := rfl
     have x6 := hB9.cell 6
     have y6 := hB9.frozen 6
     simp at x6
     clear hb2 Hr2 hqB2
     go_upto_region 20 with fail
     have hd10 := hd9.setCell (p := ⟨ib, 6, none⟩) Hib.out (.bool true)
     have hK10 : KeepC [234] w9 (w9.setCell ⟨ib, 6, none⟩ (.bool true)) := KeepC.set hB9 (by simp)
     have hB10 := hB9.set_ 6 (.bool true)
     simp at hB10
     have hu10 := hu9.keepC hK10 (by decide)
     have hrow10 := hrow9.keepC hK10 (by decide) fun p v _ h => PtF.move hd9 hd10 h
     have hk10 := hk9.keepC hK10 (by decide)
     have hp210 := PtF.move hd9 hd10 hp2
     clear x6 y6 hv2 hp2 has q20 hB9 hd9 hu9 hrow9 hk9 hK10
     generalize w9.setCell ⟨ib, 6, none⟩ (.bool true) = w10 at *
     have hnm := names_walk hp210 hlo2.1
     go_wp2_with fail
     refine hnm.mono ?_
     clear hnm
     rintro e11 w11 ⟨A, cn, ls, rfl, hown, hls, hd11⟩
     have hd11' := hd10.trans (hd11.mono hd10.size)
     have hrow11 : RowAt w11 (FO F w.heap.size) g o (x0 :: x1 :: .branch 6 a2 m :: x3 :: ee :: r3) := hrow10.keepC (T := []) (KeepC.below hd11) (by simp) fun p v _ h => PtF.move hd10 hd11' h
     have hk11 := hk10.below hd11 hk10.lt
     have hB11 := hB10.below hd11 hB10.lt
     have hu11 := hu10.below hd11
     clear hd10 hrow10 hk10 hB10 hu10 hd11 hp210
     have hlL : (Sc.namesL m).length ≤ 1000000000 := Nat.le_trans (Sc.names_take1_le m) hlo2.1
     have HW : Hid (Sc.wordsOf b (.branch 6 a2 m) = (Sc.namesL m).map (Sc.wdOf b)) := rfl
     have HlL := Lib.hid hlL
     have Hll2 : Hid (∀ y, some y ∈ Sc.namesL m → b + y.2 ≤ 1000000000) := low_names hlo2.2
     clear hlL hlo2
     generalize Sc.namesL m = Ln at *
     go_wp2_with fail
     obtain ⟨i0, ji, jz0, jz1, jz2⟩ := info_parts bd_wordp
     have Hsz11 := Lib.hid hd11'.size
     go_loopg [132] Ln.length (fun mm u wr => ∃ (i : Nat) (Ao : Option Addr) (co : Nat) (ovs : List Value), u = .int .i64 (i : Int) ∧ i ≤ Ln.length ∧ Ln.length - i ≤ mm ∧
      Blk wr ib 234 #[.int .i64 (n : Int), .int .i64 (b : Int), .pointer (some ⟨q, 0, none⟩), .bool pub, .bool false, .pointer pu1, .bool true, .slice Ao i co, .nilIface, .bool false, .pointer none, .pointer none, .pointer none] ∧
      wr.ownsRow w11.heap.size 231 1 (.slice Ao i co) i ovs ∧ WdsF wr (fun x => w.heap.size ≤ x) ((Ln.take i).map (Sc.wdOf b)) ovs ∧ KeepC [234, 231] w11 wr ∧ Below w.heap.size w wr ∧ w11.heap.size ≤ wr.heap.size)
     case atStart => exact ⟨0, none, 0, [], rfl, Nat.zero_le _, Nat.le_refl _, hB11, World.ownsRow_nil _ _ _ _, rfl, KeepC.refl _ _, hd11', Nat.le_refl _⟩
     case round =>
      obtain ⟨i, Ao, co, ovs, rfl, hi, hm, hB, hown2, hos, hK, hd, hsz⟩ := hrel
      by_cases hlt : i < Ln.length
      ·have ii0 : (0 : Int) ≤ (i : Int) := by omega
       have ii1 : (i : Int) < (Ln.length : Int) := by omega
       obtain ⟨v, hv, hpv⟩ := hls.at_ hlt
       obtain ⟨r0, rfl, hc⟩ := own_at hown (by omega)
       have hcell := hc _ _ hv
       have q0 : wr.cell? ⟨r0, i, none⟩ = some v := by
        obtain ⟨cs, fr, hty⟩ := own_ty hown r0 rfl
        exact (World.cell?_of_block (w := w11) (a := ⟨r0, i, none⟩) ((hK r0 cs _ fr hty (by decide)).trans hty.symm)).trans hcell
       have hkr := hk11.keepC hK (by decide)
       have HT : Hid ((Ln.take (i + 1)).map (Sc.wdOf b) = (Ln.take i).map (Sc.wdOf b) ++ [Sc.wdOf b Ln[i]]) := by show _ = _; rw [List.take_succ_eq_append_getElem hlt, List.map_append]; rfl
       have Hlo : Hid (∀ y, Ln[i] = some y → b + y.2 ≤ 1000000000) := fun y e => Hll2.out y (e ▸ List.getElem_mem hlt)
       have c1 : IntKind.i64.wrap ((i : Int) + 1) = (i : Int) + 1 := IntWalk.i64_in _ (by have := HlL.out; omega)
       have Hsz := Lib.hid hsz
       generalize Ln[i] = p at *
       have Hlt := Lib.hid hlt
       have Hm := Lib.hid hm
       have Hi : Hid (i ≤ 1000000000) := by have := HlL.out; show _ ≤ _; omega
       clear hv hc hcell hlt hm hi
       cases p with
       | none =>
        obtain rfl : v = .pointer none := hpv
        have HT : Hid ((Ln.take (i + 1)).map (Sc.wdOf b) = (Ln.take i).map (Sc.wdOf b) ++ [none]) := HT
        generalize (Ln.take i).map (Sc.wdOf b) = st at *
        have x7 := hB.cell 7
        simp at x7
        go_wp2_with (at_builtin; refine wpList_push _ rfl _ _ 232 rfl w11.heap.size 231 1 8 Tryz.underlying232 ji jz0 jz1 jz2 rfl (by omega) rfl hown2 #[.pointer none] rfl rfl (by simp [Value.oneCell']) Hi.out (by omega) Hsz.out ?_; intro A' c2 w2 hown3 hd2 hg2; have hB2 : Blk w2 ib 234 #[.int .i64 (n : Int), .int .i64 (b : Int), .pointer (some ⟨q, 0, none⟩), .bool pub, .bool false, .pointer pu1, .bool true, .slice Ao i co, .nilIface, .bool false, .pointer none, .pointer none, .pointer none] := hB.grown hg2 (own_ne hown2 hB (by decide)); have z7 := hB2.cell 7; have u7 := hB2.frozen 7; simp at z7)
        have hs2 := (hos.grown hown2 hg2 (by decide)).snoc (x := none) (v := .pointer none) rfl
        have hd3 := (hd.trans (hd2.mono Hsz11.out)).setCell (p := ⟨ib, 7, none⟩) Hib.out (.slice A' (i + 1) c2)
        have hK2 : KeepC [234, 231] wr w2 := KeepC.grown hg2 fun g cs t fr e hk => by
         obtain ⟨cs', fr', h3⟩ := own_ty hown2 g e
         rw [hk] at h3
         injection h3 with h3
         injection h3 with _ h3 _
         simp [h3]
        have hK3 : KeepC [234] w2 (w2.setCell ⟨ib, 7, none⟩ (.slice A' (i + 1) c2)) := KeepC.set hB2 (by simp)
        have hK4 : KeepC [234, 231] w11 (w2.setCell ⟨ib, 7, none⟩ (.slice A' (i + 1) c2)) := (hK.trans hK2).trans (hK3.mono (by simp))
        have hB3 := hB2.set_ 7 (.slice A' (i + 1) c2)
        simp at hB3
        have hown4 : (w2.setCell ⟨ib, 7, none⟩ (.slice A' (i + 1) c2)).ownsRow w11.heap.size 231 1 (.slice A' (i + 1) c2) (i + 1) (ovs ++ [.pointer none]) := own_of_block hown3 fun k hk => (grown_set w2 ib 7 _).block k (hown3.lt k hk).2 fun e => own_ne hown3 hB2 (by decide) (e.symm.trans hk.symm)
        have hs3 := hs2.keepC hK3 (by decide)
        have hz3 : w11.heap.size ≤ (w2.setCell ⟨ib, 7, none⟩ (.slice A' (i + 1) c2)).heap.size := Nat.le_trans (Nat.le_trans Hsz.out hg2.size) (grown_set w2 ib 7 _).size
        clear hs2 hK2 hK3 hB2 hown3 hd2 hg2 hB hos hK hd z7 u7 x7 hown2 hkr q0
        generalize w2.setCell ⟨ib, 7, none⟩ (.slice A' (i + 1) c2) = w3 at *
        go_roundg (Ln.length - (i + 1))
        case rel => exact ⟨i + 1, A', c2, _, by go_num, by have := Hlt.out; omega, Nat.le_refl _, hB3, hown4, by rw [HT.out]; exact hs3, hK4, hd3, hz3⟩
        case measure => have := Hlt.out; have := Hm.out; omega
       | some y =>
        obtain ⟨gl, rfl, hF, hBl⟩ := hpv
        have hpl : PtF wr (FO F w.heap.size) (.leaf 3 y.1 y.2) (.iface 171 (.pointer (some ⟨gl, 0, none⟩))) := ⟨gl, rfl, hF, hBl.keepC hK (by decide)⟩
        have HT : Hid ((Ln.take (i + 1)).map (Sc.wdOf b) = (Ln.take i).map (Sc.wdOf b) ++ [Sc.wordOf b (.leaf 3 y.1 y.2)]) := HT
        generalize (Ln.take i).map (Sc.wdOf b) = st at *
        have x7 := hB.cell 7
        simp at x7
        have x7 : wr.drew.cell? ⟨ib, 7, none⟩ = some (.slice Ao i co) := x7
        go_wp2_with fail
        refine wp_region_G 13 (fun w' : World => w'.cell? ⟨ib, 7, none⟩ = some (.slice Ao i co)) (by kernel_rfl) ?_
        have hB := hB.drew
        have hkr := hkr.drew
        have hpl := PtF.move hd hd.drew hpl
        have hown2 : wr.drew.ownsRow w11.heap.size 231 1 (.slice Ao i co) i ovs := hown2
        have hos := hos.below ((Below.refl _ _).drew)
        have hK : KeepC [234, 231] w11 wr.drew := hK.drew
        have hd := hd.drew
        have Hsz : Hid (w11.heap.size ≤ wr.drew.heap.size) := Hsz
        clear q0 hBl
        generalize wr.drew = w2 at *
        have hS0 : (fun w' : World => w'.cell? ⟨ib, 7, none⟩ = some (.slice Ao i co)) w2 := x7
        refine wpAnyG_tk 0 hS0 ?_
        simp only [Act.put, List.setIfInBounds_toArray]
        refine wpAnyG_tk 1 hS0 ?_
        simp only [Act.put]
        refine wpAnyG_tk 2 hS0 ?_
        simp only [Act.put]
        refine wpAnyG_tk 3 hS0 ?_
        simp only [Act.put]
        refine wpAnyG_tk 4 hS0 ?_
        simp only [Act.put]
        refine wpAnyG_tk 5 hS0 ?_
        simp only [Act.put]
        refine wpAnyG_tk 6 hS0 ?_
        simp only [Act.put]
        refine wpAnyG_tk 7 hS0 ?_
        simp only [Act.put]
        have hw1 := sc_word hpl (kb := kb) (b := b) (by have := hkr.cell 1; simpa using this) (fun k t a e => by injection e with _ _ e; subst e; exact Hlo.out y rfl)
        refine wpAnyG_on 8 fun C hC => ?_
        go_simp
        refine hw1.mono ?_
        clear hw1
        rintro e3 w3 ⟨u, rfl, hu, hd3⟩
        have hB3 := hB.below hd3 hB.lt
        have z7 := hB3.cell 7
        simp at z7
        have hown3 := own_of_block hown2 fun k hk => hd3.block k (hown2.lt k hk).2
        have hos3 := hos.below hd3
        have hK3 := hK.trans (KeepC.below hd3)
        have hz3 := Nat.le_trans Hsz.out hd3.size
        have hd3' := hd.trans (hd3.mono hd.size)
        have hu3 := hu.mono (F' := fun x => w.heap.size ≤ x) fun x hx => Nat.le_trans hd.size hx
        refine hC.out _ _ (fun _ => z7) ?_
        clear hC C hS0 hB hown2 hos hK hd hd3 hu hkr hpl x7
        have Hz3 := Lib.hid hz3
        clear hz3
        obtain ⟨pp, rfl⟩ := hu3.ptr
        refine wpAnyG_on 9 fun C hC => ?_
        go_simp
        refine hC.out _ _ (fun _ => (hB3.alloc _).cell 7) ?_
        clear hC C
        refine wpAnyG_on 10 fun C hC => ?_
        refine step_push w3 (by rfl) _ _ 232 (by rfl) w11.heap.size 231 1 8 Tryz.underlying232 ji jz0 jz1 jz2 rfl (by omega) (by rfl) hown3 #[.pointer pp] (by rfl) rfl (by simp [Value.oneCell']) Hi.out (by omega) Hz3.out ?_
        intro A' c2 w5 hown5 hd5 hg5
        have hB5 := hB3.grown hg5 (own_ne hown3 hB3 (by decide))
        have y7 := hB5.cell 7
        have v7 := hB5.frozen 7
        simp at y7
        have hs5 := (hos3.grown hown3 hg5 (by decide)).snoc (hu3.grown hown3 hg5 (by decide))
        have hd6 := (hd3'.trans (hd5.mono Hsz11.out)).setCell (p := ⟨ib, 7, none⟩) Hib.out (.slice A' (i + 1) c2)
        have hK5 : KeepC [234, 231] w3 w5 := KeepC.grown hg5 fun g cs t fr e hk => by
         obtain ⟨cs', fr', h3⟩ := own_ty hown3 g e
         rw [hk] at h3
         injection h3 with h3
         injection h3 with _ h3 _
         simp [h3]
        have hK6 : KeepC [234] w5 (w5.setCell ⟨ib, 7, none⟩ (.slice A' (i + 1) c2)) := KeepC.set hB5 (by simp)
        have hK7 : KeepC [234, 231] w11 (w5.setCell ⟨ib, 7, none⟩ (.slice A' (i + 1) c2)) := (hK3.trans hK5).trans (hK6.mono (by simp))
        have hB6 := hB5.set_ 7 (.slice A' (i + 1) c2)
        simp at hB6
        have hown6 : (w5.setCell ⟨ib, 7, none⟩ (.slice A' (i + 1) c2)).ownsRow w11.heap.size 231 1 (.slice A' (i + 1) c2) (i + 1) (ovs ++ [.pointer pp]) := own_of_block hown5 fun k hk => (grown_set w5 ib 7 _).block k (hown5.lt k hk).2 fun e => own_ne hown5 hB5 (by decide) (e.symm.trans hk.symm)
        have hs6 := hs5.keepC hK6 (by decide)
        have hz6 : w11.heap.size ≤ (w5.setCell ⟨ib, 7, none⟩ (.slice A' (i + 1) c2)).heap.size := Nat.le_trans (Nat.le_trans Hz3.out hg5.size) (grown_set w5 ib 7 _).size
        refine hC.out _ _ (fun _ => y7) ?_
        clear hC C hB3 hown3 hos3 hK3 hd3' hu3 z7 hd5 hg5 hK5 hK6 hs5 hown5 Hz3
        refine wpAnyG_on 11 fun C hC => ?_
        go_simp
        refine hC.out _ _ (fun _ => y7) ?_
        clear hC C
        refine wpAnyG_on 12 fun C hC => ?_
        go_simp
        refine hC.out _ _ (fun _ => y7) ?_
        clear hC C
        refine wpAnyG_on 13 fun C hC => ?_
        go_simp
        refine hC.out _ _ (fun h => absurd rfl h) ?_
        clear hC C
        refine wpAnyG_done (by kernel_rfl) ?_ _
        clear y7 v7 hB5
        generalize w5.setCell ⟨ib, 7, none⟩ (.slice A' (i + 1) c2) = w6 at *
        go_wp2_with fail
        go_roundg (Ln.length - (i + 1))
        case rel => exact ⟨i + 1, A', c2, _, by go_num, by have := Hlt.out; omega, Nat.le_refl _, hB6, hown6, by rw [HT.out]; exact hs6, hK7, hd6, hz6⟩
        case measure => have := Hlt.out; have := Hm.out; omega
      ·obtain rfl : i = Ln.length := by omega
       have n1 : ¬ (Ln.length : Int) < (Ln.length : Int) := by omega
       have n2 : decide (Ln.length < Ln.length) = false := by simp
       rw [List.take_length] at hos
       have hrow := hrow11.keepC hK (by decide) fun p v _ h => PtF.move hd11' hd h
       obtain ⟨v4, hv4, hp4⟩ := hrow.2 4 ee rfl
       obtain ⟨kd4, g4, rfl⟩ := hp4.form
       have hu := hu11.keepC hK (by decide)
       have x8 := hB.cell 8
       have y8 := hB.frozen 8
       simp at x8
       have hcn : ¬ c' = 1 := by have := Hcap.out; omega
       have i4 : (3 : Int) < ((N - 1 : Nat) : Int) := by have h1 := HN.out; simp at h1; omega
       have j4 : 3 < N - 1 := by omega
       have hv4 : wr.cell? ⟨g, o + 1 + 3, none⟩ = some (.iface kd4 (.pointer (some ⟨g4, 0, none⟩))) := hv4
       clear hlt hi hm hrow
       go_wp2_with fail
       have hd12 := hd.setCell (p := ⟨ib, 8, none⟩) Hib.out (.iface kd4 (.pointer (some ⟨g4, 0, none⟩)))
       have hK12 : KeepC [234] wr (wr.setCell ⟨ib, 8, none⟩ (.iface kd4 (.pointer (some ⟨g4, 0, none⟩)))) := KeepC.set hB (by simp)
       have hB12 := hB.set_ 8 (.iface kd4 (.pointer (some ⟨g4, 0, none⟩)))
       simp at hB12
       have hu12 := hu.keepC hK12 (by decide)
       have hp12 := PtF.move hd hd12 hp4
       have hos12 := hos.keepC hK12 (by decide)
       have hown12 : (wr.setCell ⟨ib, 8, none⟩ (.iface kd4 (.pointer (some ⟨g4, 0, none⟩)))).ownsRow w11.heap.size 231 1 (.slice Ao Ln.length co) Ln.length ovs := own_of_block hown2 fun k hk => (grown_set wr ib 8 _).block k (hown2.lt k hk).2 fun e => own_ne hown2 hB (by decide) (e.symm.trans hk.symm)
       obtain ⟨hco, hrw, hty⟩ := own_cap_row hown12 (fun x => w.heap.size ≤ x) fun x hx => Nat.le_trans Hsz11.out hx
       clear x8 y8 hv4 hp4 hB hd hu hos hown2
       generalize wr.setCell ⟨ib, 8, none⟩ (.iface kd4 (.pointer (some ⟨g4, 0, none⟩))) = w12 at *
       go_ret
       rw [Hit.out, Hpu.out, Hpar.out]
       have hWl : (Sc.wordsOf b (.branch 6 a2 m)).length = Ln.length := by rw [HW.out, List.length_map]
       refine ⟨ib, rfl, Hib.out, ⟨Hib.out, rfl, q, .pointer pu1, Ao, co, .iface kd4 (.pointer (some ⟨g4, 0, none⟩)), .pointer none, .pointer none, .pointer none, ?_, ?_, ?_, ?_, ⟨ovs, hrw, ?_⟩, ?_, fun _ => ?_, rfl, rfl, rfl⟩, hd12⟩
       ·show Blk w12 ib 234 (itC _ _ _ _ _ _ _ _ _ _)
        unfold itC
        simp only [if_true, hWl]
        exact hB12
       ·exact PtF.below Hp.out hd12
       ·exact hu12
       ·simp only [if_true, hWl]; exact hco
       ·simp only [if_true]; rw [HW.out]; exact hos12
       ·simp only [if_true, hWl]; exact hty
       ·exact PtF.keep (Nat.le_refl _) (fun b hb _ => ⟨rfl, hb.1⟩) _ _ hp12
end
def noDefer (ops : Array Oper) : Bool := ops.toList.all fun o => match o.op with
 | .defer _ => false
 | _ => true
section
variable {P : Program} {ops : Array Oper} {Q : Exit → Act → World → Prop} {md : Region.Mode} {l n : Nat}
theorem rowsIn_round {row : String} {args : Array Value} {w : World} {R : Value → World → Prop} (h : Rows P row args w R) : RowsIn (Fence.wide.inRound l) n P row args w R :=
 fun c cs _ => let ⟨v, w', r, s⟩ := h c cs; ⟨v, w', r, stepsIn_wide.2 s⟩
theorem operIn_of {o : Oper} (hd : ∀ c, o.op ≠ .defer c) {a : Act} {w : World} {K : Act → World → Prop} (h : o.wp P a w K Q) : o.wpIn (Fence.wide.inRound l) n P a w K Q := by
 unfold Oper.wp at h
 refine ⟨fun _ _ => trivial, ?_⟩
 rw [Oper.semAt_eq _ _ _ hd]
 generalize (execOp a.eval o).run P w = r at *
 cases r with
 | ok x w' =>
  cases x <;> first | exact h | exact ⟨fun e => (by cases e), CallsIn.inRound l (callsIn_wide.2 h)⟩ | exact ⟨fun e => (by cases e), rowsIn_round h⟩ | exact h.elim
 | halt x w' => cases x <;> exact h
theorem opIn_of (hno : ¬ LetsOut Q) (hd : noDefer ops = true) {i : Nat} {K : Act → World → Prop} {a : Act} {w : World} (h : wpOp P ops Q i K a w) : wpOpIn (Fence.wide.inRound l) n P ops Q i K a w := by
 unfold wpOp at h
 unfold wpOpIn
 cases ho : ops[i]? with
 | none => rw [ho] at h; exact h
 | some o =>
  rw [ho] at h
  dsimp only at h ⊢
  have hdo : ∀ c, o.op ≠ .defer c := fun c e => by
   have h1 := List.all_eq_true.1 hd o (Array.mem_toList_iff.2 (Array.mem_of_getElem? ho))
   rw [e] at h1
   cases h1
  split
  ·rename_i hw
   rw [if_pos hw] at h
   rcases h with h | h
   ·exact operIn_of hdo h
   ·exact absurd h.2 hno
  ·rename_i hw
   rw [if_neg hw] at h
   exact ⟨fun _ _ => trivial, h⟩
theorem anyIn_of (hno : ¬ LetsOut Q) (hd : noDefer ops = true) : ∀ (fuel : Nat) (listed : Array Bool) (a : Act) (w : World), wpAny P md ops Q fuel listed a w → wpAnyIn (Fence.wide.inRound l) n P md ops Q fuel listed a w
 | 0, _, _, _, h => h
 | fuel + 1, _, _, _, h => ⟨h.1, fun i hi => wpOpIn_mono (fun a w h' => anyIn_of hno hd fuel _ a w h') (opIn_of hno hd (h.2 i hi))⟩
theorem region_round {id : Nat} {a : Act} {w : World} (L : Nat) (S : World → Prop) (hno : ¬ LetsOut Q) (hd : noDefer ops = true) (hm : P.follows .mixedOrders = true)
  (h : wpAnyG P .any ops Q S L ops.size (Array.replicate ops.size false) a w.drew) : (Code.region id ops true).wpIn (Fence.wide.inRound l) n P Q a w :=
 wpIn_region_any hm (anyIn_of hno hd _ _ _ _ (wpAny_of_G _ _ _ _ h))
end
attribute [local go_sem] Oper.semAt_some
def downL (n k : Nat) : List Nat := (List.range k).map fun t => n - 1 - t
theorem down_succ (n k : Nat) : downL n (k + 1) = downL n k ++ [n - 1 - k] := by simp [downL, List.range_succ]
theorem down_len (n k : Nat) : (downL n k).length = k := by simp [downL]
def valAt (vs : List Value) (j : Nat) : Value := vs[j]?.getD (.pointer none)
def wordAt (ws : List (Option Sc.Wd)) (j : Nat) : Option Sc.Wd := ws[j]?.getD none
def pushE (x : Option Sc.Wd) (e : Sc.Env) : Sc.Env := match x with
 | some y => (y.text, y.at_) :: e
 | none => e
def envL (ws : List (Option Sc.Wd)) (e : Sc.Env) (pre : List Nat) : Sc.Env := pre.foldl (fun e j => pushE (wordAt ws j) e) e
theorem envL_snoc (ws : List (Option Sc.Wd)) (e : Sc.Env) (pre : List Nat) (j : Nat) : envL ws e (pre ++ [j]) = pushE (wordAt ws j) (envL ws e pre) := by unfold envL; rw [List.foldl_append]; rfl
theorem envL_down (ws : List (Option Sc.Wd)) (e : Sc.Env) : envL ws e (downL ws.length ws.length) = Sc.innerM ws e := by
 have h1 : (downL ws.length ws.length).map (wordAt ws) = ws.reverse := by
  apply List.ext_getElem
  ·simp [downL]
  ·intro i h1 h2
   simp [downL, wordAt] at h1 ⊢
   rw [List.getElem?_eq_getElem (by omega)]
   rfl
 unfold envL
 have h2 : ∀ (l : List Nat) (e : Sc.Env), l.foldl (fun e j => pushE (wordAt ws j) e) e = (l.map (wordAt ws)).foldl (fun e x => pushE x e) e := fun l e => by rw [List.foldl_map]
 rw [h2, h1, List.foldl_reverse]
 rfl
def KpB (n₀ Bs : Nat) (W W' : World) : Prop := Below n₀ W W' ∧ W'.heap[Bs]? = W.heap[Bs]?
theorem KpB.t {n₀ Bs : Nat} {A B C : World} (h : KpB n₀ Bs A B) (k : KpB n₀ Bs B C) : KpB n₀ Bs A C := ⟨h.1.trans k.1, k.2.trans h.2⟩
set_option maxRecDepth 100000 in
set_option maxHeartbeats 4000000 in
theorem back1_in (n : Nat) (hn : 1 ≤ n) (l Bs n₀ : Nat) (A : Option Addr) (c : Nat) (vs : List Value) (hl : vs.length ≤ 1000000000) (J Jx : List Nat → World → Prop)
  (hY : ∀ (pre : List Nat) (x : Nat) (W : World), J pre W → pre.length < vs.length → YieldAt Fence.wide (n - 1) Tryz.prog l #[.int .i64 (x : Int), valAt vs x] W fun e W' =>
   (e = .returned (.bool true) ∧ J (pre ++ [x]) W' ∧ KpB n₀ Bs W W') ∨ (e = .returned (.bool false) ∧ Jx (pre ++ [x]) W'))
  (W : World) (hBs : W.cell? ⟨Bs, 0, none⟩ = some (.slice A vs.length c)) (hc : ∀ j, j < vs.length → ∃ br o, A = some ⟨br, o, none⟩ ∧ br < n₀ ∧ W.cell? ⟨br, o + j, none⟩ = some (valAt vs j)) (h0 : J [] W) :
  CallsIn Fence.wide n Tryz.prog 247 #[.func (.yield l) #[] #[], .pointer (some ⟨Bs, 0, none⟩)] W fun e W' => (∃ v, e = .returned v) ∧
   ((∃ ys, ys = downL vs.length vs.length ∧ J ys W') ∨ (∃ pre, (∃ k, k ≤ vs.length ∧ pre = downL vs.length k) ∧ Jx pre W')) := by
 refine callsIn_of_wp Tryz.func247 rfl trivial ?_ rfl
 simp only [Tryz.ntmps247, List.size_toArray, List.length_cons, List.length_nil, Nat.reduceAdd, Nat.reduceSub, Array.replicate_succ, Array.replicate_zero, List.push_toArray, List.append_toArray, List.nil_append, List.cons_append]
 have c0 : IntKind.i64.wrap ((vs.length : Int) - 1) = (vs.length : Int) - 1 := IntWalk.i64_in _ (by omega)
 gi_wp2
 gi_loopw [3] (fun i wr => ∃ k : Nat, k ≤ vs.length ∧ i = .int .i64 ((vs.length : Int) - 1 - (k : Int)) ∧ J (downL vs.length k) wr ∧ KpB n₀ Bs W wr)
  (fun i _ => (intOf i + 1).toNat)
 case atStart => exact ⟨0, Nat.zero_le _, by simp, h0, Below.refl _ _, rfl⟩
 case round =>
  obtain ⟨k, hk, rfl, hJs, hnx⟩ := hrel
  by_cases hlt : k < vs.length
  ·obtain ⟨br, o, rfl, hbr, hcj⟩ := hc (vs.length - 1 - k) (by omega)
   have hcx' := (hnx.1.cell (p := ⟨br, o + (vs.length - 1 - k), none⟩) hbr).trans hcj
   have hbx' := (World.cell?_of_block (a := ⟨Bs, 0, none⟩) hnx.2).trans hBs
   obtain ⟨j, hj⟩ : ∃ j, j = vs.length - 1 - k := ⟨_, rfl⟩
   have e1 : (vs.length : Int) - 1 - (k : Int) = (j : Int) := by omega
   rw [← hj] at hcx'
   rw [e1]
   obtain ⟨fn, tmps, assign, body, hy, hR⟩ := hY _ j wr hJs (by rw [down_len]; exact hlt)
   have i0 : (0 : Int) ≤ (j : Int) := by omega
   have i1 : (j : Int) < (vs.length : Int) := by omega
   have c1 : IntKind.i64.wrap ((j : Int) - 1) = (j : Int) - 1 := IntWalk.i64_in _ (by omega)
   have Hj := Lib.hid hj
   have He1 := Lib.hid e1
   have Hlt := Lib.hid hlt
   clear hj e1 hcj hlt hk
   gi_wp2
   refine hR.mono ?_
   rintro e W3 (⟨rfl, hJ3, hk3⟩ | ⟨rfl, hJx3⟩)
   ·gi_wp2
    go_roundw
    case rel => exact ⟨k + 1, Hlt.out, by have := He1.out; congr 1; omega, by rw [down_succ, ← Hj.out]; exact hJ3, hnx.t hk3⟩
    case measure => have := He1.out; have := Hlt.out; simp [intOf]
   ·gi_wp2
    refine bodyPost_ret (results_none rfl _ _ _) rfl ?_
    exact ⟨⟨_, rfl⟩, .inr ⟨_, ⟨k + 1, Hlt.out, by rw [down_succ, ← Hj.out]⟩, hJx3⟩⟩
  ·obtain rfl : k = vs.length := by omega
   have e1 : (vs.length : Int) - 1 - (vs.length : Int) = -1 := by omega
   rw [e1]
   gi_wp2
   go_end0
   exact ⟨⟨_, rfl⟩, .inl ⟨_, rfl, hJs⟩⟩
theorem back_stops (n : Nat) (hn : 1 ≤ n) (Bs n₀ : Nat) (A : Option Addr) (c : Nat) (vs : List Value) (hl : vs.length ≤ 1000000000) (w : World) (hBs : Bs < w.heap.size) (hn₀ : n₀ ≤ w.heap.size)
  (hb : w.cell? ⟨Bs, 0, none⟩ = some (.slice A vs.length c)) (hc : ∀ j, j < vs.length → ∃ br o, A = some ⟨br, o, none⟩ ∧ br < n₀ ∧ w.cell? ⟨br, o + j, none⟩ = some (valAt vs j)) :
  SeqStopsK Fence.wide n Tryz.prog 247 #[.pointer (some ⟨Bs, 0, none⟩)] (fun x : Nat => #[Value.int .i64 (x : Int), valAt vs x]) (KpB n₀ Bs) (fun ys => ys = downL vs.length vs.length) (fun _ => True) vs.length w := fun l J Jx W hW _ _ hY h0 => by
 refine (back1_in n hn l Bs n₀ A c vs hl J Jx hY W ((hW.cell (p := ⟨Bs, 0, none⟩) hBs).trans hb) (fun j hj => ?_) h0).mono ?_
 ·obtain ⟨br, o, e, hbr, hcc⟩ := hc j hj
  exact ⟨br, o, e, hbr, (hW.cell (p := ⟨br, o + j, none⟩) (Nat.lt_of_lt_of_le hbr hn₀)).trans hcc⟩
 ·rintro e W' ⟨he, ⟨ys, rfl, hj⟩ | ⟨pre, _, hj⟩⟩
  ·exact ⟨he, .inl ⟨_, rfl, hj⟩⟩
  ·exact ⟨he, .inr ⟨_, trivial, hj⟩⟩
set_option maxHeartbeats 2000000 in
set_option maxRecDepth 100000 in
theorem back_walk (A : Option Addr) (n c : Nat) (w : World) : Calls Tryz.prog 237 #[.slice A n c] w fun e w' => e = .returned (.func (.func 247) #[] #[.pointer (some ⟨w.heap.size, 0, none⟩)]) ∧ w' = w.alloc (.cells #[.slice A n c] 232) := by
 go_enter Tryz.func237, Tryz.ntmps237
 go_wp2_with fail
 go_ret
 exact ⟨rfl, rfl⟩
theorem WdsF.val {w : World} {F : Nat → Prop} {ws : List (Option Sc.Wd)} {vs : List Value} (h : WdsF w F ws vs) (j : Nat) : WdF w F (wordAt ws j) (valAt vs j) := by
 unfold wordAt valAt
 rcases Nat.lt_or_ge j ws.length with hj | hj
 ·obtain ⟨v, hv, hx⟩ := h.at_ hj
  rw [hv, List.getElem?_eq_getElem hj]
  exact hx
 ·rw [List.getElem?_eq_none hj, List.getElem?_eq_none (by rw [h.len]; exact hj)]
  rfl
def InI (r0 : Nat) (ws : List (Option Sc.Wd)) (env : Sc.Env) (pre : List Nat) (W : World) : Prop := ∃ q, Blk W r0 329 #[.pointer q] ∧ EnvF W (fun _ => True) (envL ws env pre) q ∧ r0 + 2 ≤ W.heap.size
theorem Blk.kept {W W' : World} {row : Option Nat} {g : Nat} {t : TypeId} {cs : Array Value} (h : Blk W g t cs) (hg : W.grownBy W' row) (hr : ∀ r, row = some r → ∃ o : Obj, W.heap[r]? = some o ∧ o.isCells = false) : Blk W' g t cs :=
 (hg.block g h.lt fun e => by
  obtain ⟨o, h1, h2⟩ := hr g e.symm
  unfold Blk at h
  rw [h] at h1
  injection h1 with h1
  subst h1
  cases h2).trans h
theorem EnvF.kept {W W' : World} {row : Option Nat} {F : Nat → Prop} (hg : W.grownBy W' row) (hr : ∀ r, row = some r → ∃ o : Obj, W.heap[r]? = some o ∧ o.isCells = false) : ∀ {e : Sc.Env} {p : Option Addr}, EnvF W F e p → EnvF W' F e p
 | [], _, h => h
 | y :: e, p, h => by
  obtain ⟨g, q, e1, hF, hB, he⟩ := h
  exact ⟨g, q, e1, hF, hB.kept hg hr, EnvF.kept hg hr he⟩
theorem inI_own (r0 : Nat) (ws : List (Option Sc.Wd)) (env : Sc.Env) : Own (InI r0 ws env) := fun s W W' row hs hg hr => by
 obtain ⟨q, h1, h2, h3⟩ := hs
 exact ⟨q, h1.kept hg hr, h2.kept hg hr, Nat.le_trans h3 hg.size⟩
theorem EnvF.true_ {w : World} {F : Nat → Prop} {e : Sc.Env} {p : Option Addr} (h : EnvF w F e p) : EnvF w (fun _ => True) e p := h.keep fun _ _ _ => ⟨rfl, trivial⟩
def InS (r0 g : Nat) (y : Sc.Wd) (q : Option Addr) (w' : World) : Prop := w'.cell? ⟨g, 0, none⟩ = some (.string ⟨y.text.toArray⟩) ∧ w'.cell? ⟨g, 1, none⟩ = some (.int .i64 (y.at_ : Int)) ∧ w'.cell? ⟨r0, 0, none⟩ = some (.pointer q)
def InnerE (env : Sc.Env) (w : World) (e : Ending) (w' : World) : Prop := ∃ q, e = .returned (.pointer q) ∧ EnvF w' (fun _ => True) env q ∧ Below w.heap.size w w'
set_option maxHeartbeats 8000000 in
set_option maxRecDepth 100000 in
theorem sc_inner {w : World} {Fe F : Nat → Prop} {env : Sc.Env} {p : Option Addr} (he : EnvF w Fe env p) {A : Option Addr} {c : Nat} {ws : List (Option Sc.Wd)} (hr : WdR w F A ws) (hl : ws.length ≤ 1000000000) :
  Calls Tryz.prog 212 #[.pointer p, .slice A ws.length c] w (InnerE (Sc.innerM ws env) w) := by
 obtain ⟨vs, hrow, hws⟩ := hr
 have hlv := hws.len
 refine (callsIn_wide (n := 9)).1 ?_
 refine callsIn_of_wp_marks Tryz.func212 rfl trivial ?_ rfl
 simp only [Tryz.ntmps212, List.size_toArray, List.length_cons, List.length_nil, Nat.reduceAdd, Nat.reduceSub, Array.replicate_succ, Array.replicate_zero, List.push_toArray, List.append_toArray, List.nil_append, List.cons_append]
 have Hlv := Lib.hid hlv
 clear hlv
 gi_wp2_with (refine ⟨trivial, ?_⟩; gi_at_call 237; refine (callsIn_wide.2 (back_walk _ _ _ _)).mono ?_; rintro e w' ⟨rfl, rfl⟩)
 have hB0 : Below w.heap.size w ((w.alloc (.cells #[.pointer p] 329)).alloc (.cells #[.slice A ws.length c] 232)) := ((Below.refl _ w).alloc (Nat.le_refl _) _).alloc (by simp) _
 have hbx : Blk ((w.alloc (.cells #[.pointer p] 329)).alloc (.cells #[.slice A ws.length c] 232)) w.heap.size 329 #[.pointer p] := (Blk.new w _ _).alloc _
 have hbs := Blk.new (w.alloc (.cells #[.pointer p] 329)) 232 #[.slice A ws.length c]
 rw [World.size_alloc] at hbs
 refine wpIn_rangeFunc_ownF rfl (by omega) (gf := 247) (lb := #[.pointer (some ⟨w.heap.size + 1, 0, none⟩)]) rfl trivial (enters_of Tryz.func247 (by kernel_rfl) rfl)
  (back_stops 8 (by omega) (w.heap.size + 1) w.heap.size A c vs (by rw [Hlv.out]; exact hl) _ hbs.lt hB0.size (by rw [Hlv.out]; exact hbs.cell 0) (fun j hj => by
   obtain ⟨br, o, e, hF, hbl, hcc⟩ := hrow (by omega)
   refine ⟨br, o, e, hbl, (hB0.cell (p := ⟨br, o + j, none⟩) hbl).trans (hcc j _ ?_)⟩
   unfold valAt
   rw [List.getElem?_eq_getElem hj]
   rfl)) KpB.t (fun W l o o' hle hh hnc hnw => ⟨belowK_b (w := (w.alloc (.cells #[.pointer p] 329)).alloc (.cells #[.slice A ws.length c] 232)) hB0.size W l o o' hle hh hnc hnw, World.putObj_heap_other (by have := hbs.lt; omega)⟩) (Below.refl _ _) (fun _ => rfl)
  (fun pre W => InI w.heap.size ws env pre W ∧ Below w.heap.size w W)
  (fun _ _ _ => False)
  (OwnFrom.and (Own.from (inI_own _ _ _) _) (ownFrom_below (Nat.le_refl _) hB0.size))
  (fun _ _ _ _ _ hs _ _ => hs)
  ⟨⟨p, hbx, (he.below hB0).true_, by simp⟩, hB0⟩
  (fun j => { tmps := #[.pointer p, .slice A ws.length c, .pointer (some ⟨w.heap.size, 0, none⟩), undef, .pointer none, undef, valAt vs j, .slice A ws.length c, .func (.func 247) #[] #[.pointer (some ⟨w.heap.size + 1, 0, none⟩)], .int .i64 (j : Int), valAt vs j, undef, undef, undef, undef, undef, undef, undef, undef, undef, undef, undef, undef, undef, undef], defers := [] }) ?assign ?body ?done ?stop
 case assign =>
  intro l x W K hK
  gi_wp2
  exact hK
 case body =>
  rintro l pre j W ⟨⟨q, hbx, hE, hsz⟩, hB⟩ _
  have hx := (hws.val j).below hB
  have HX : Hid (envL ws env (pre ++ [j]) = pushE (wordAt ws j) (envL ws env pre)) := envL_snoc ws env pre j
  generalize wordAt ws j = x at *
  generalize valAt vs j = v at *
  generalize hen : envL ws env pre = e1 at *
  have b0 := hbx.cell 0
  have f0 := hbx.frozen 0
  simp at b0
  cases x with
  | none =>
   obtain rfl : v = .pointer none := hx
   gi_wp2
   exact ⟨KeepsOthers.refl _, ⟨Below.refl _ _, rfl⟩, ⟨q, hbx, by rw [HX.out]; exact hE, hsz⟩, hB⟩
  | some y =>
   obtain ⟨g, rfl, hF, hg⟩ := hx
   have g0 := hg.cell 0
   have g1 := hg.cell 1
   simp at g0 g1
   gi_upto_region 4 with fail
   refine region_round 11 (InS w.heap.size g y q) (by rintro ⟨a, w, h⟩; exact h) (by kernel_rfl) (by kernel_rfl) ?_
   have hS0 : InS w.heap.size g y q W.drew := ⟨g0, g1, b0⟩
   have hk0 : KeepsOthers W W.drew := KeepsOthers.drew W
   have hb0 : Below w.heap.size W W.drew := (Below.refl _ _).drew
   have hs0 : W.drew.heap[w.heap.size + 1]? = W.heap[w.heap.size + 1]? := rfl
   have hsz : w.heap.size + 2 ≤ W.drew.heap.size := hsz
   have hbx := hbx.drew
   have hE := EnvF.below hE ((Below.refl _ _).drew)
   have hB := hB.drew
   have hg := hg.drew
   clear b0 f0 g0 g1
   generalize W.drew = W2 at *
   refine wpAnyG_tk 0 hS0 ?_
   simp only [Act.put, List.setIfInBounds_toArray]
   refine wpAnyG_tk 1 hS0 ?_
   simp only [Act.put]
   refine wpAnyG_tk 2 hS0 ?_
   simp only [Act.put]
   refine wpAnyG_tk 3 hS0 ?_
   simp only [Act.put]
   refine wpAnyG_tk 4 hS0 ?_
   simp only [Act.put]
   refine wpAnyG_tk 5 hS0 ?_
   simp only [Act.put]
   refine wpAnyG_tk 6 hS0 ?_
   simp only [Act.put]
   refine wpAnyG_tk 7 hS0 ?_
   simp only [Act.put]
   refine wpAnyG_tk 8 hS0 ?_
   simp only [Act.put]
   refine wpAnyG_tk 9 hS0 ?_
   simp only [Act.put]
   clear hS0
   have hd3 : Below W2.heap.size W2 (W2.alloc (.cells #[.string ⟨y.text.toArray⟩, .int .i64 (y.at_ : Int), .pointer q] 359)) := (Below.refl _ _).alloc (Nat.le_refl _) _
   have hn := Blk.new W2 359 #[.string ⟨y.text.toArray⟩, .int .i64 (y.at_ : Int), .pointer q]
   have hbx3 := hbx.below hd3 hbx.lt
   have hg3 := hg.below hd3 hg.lt
   have hE3 := EnvF.below hE hd3
   have hk3 := hk0.trans (KeepsOthers.alloc W2 (.cells #[.string ⟨y.text.toArray⟩, .int .i64 (y.at_ : Int), .pointer q] 359))
   have hB3 := hB.trans (hd3.mono hB.size)
   have hb3 := hb0.trans (hd3.mono hB.size)
   have hs3 := (hd3.block (w.heap.size + 1) (by omega)).trans hs0
   have hsz3 := Nat.le_trans hsz hd3.size
   have hS3 : InS w.heap.size g y q (W2.alloc (.cells #[.string ⟨y.text.toArray⟩, .int .i64 (y.at_ : Int), .pointer q] 359)) := ⟨by have := hg3.cell 0; simpa using this, by have := hg3.cell 1; simpa using this, by have := hbx3.cell 0; simpa using this⟩
   have HS3 := Lib.hid hS3
   clear hbx hE hB hg hk0 hb0 hs0 hsz hd3 hg3 hS3
   refine wpAnyG_on 10 fun C hC => ?_
   go_simp
   refine hC.out _ _ (fun _ => HS3.out) ?_
   clear hC C
   obtain ⟨ne, hne⟩ : ∃ ne, ne = W2.heap.size := ⟨_, rfl⟩
   rw [← hne] at hn ⊢
   clear hne
   generalize W2.alloc (.cells #[.string ⟨y.text.toArray⟩, .int .i64 (y.at_ : Int), .pointer q] 359) = W3 at *
   have b0 := hbx3.cell 0
   have f0 := hbx3.frozen 0
   simp at b0
   refine wpAnyG_on 11 fun C hC => ?_
   go_simp
   refine hC.out _ _ (fun h => absurd rfl h) ?_
   clear hC C
   refine wpAnyG_done (by kernel_rfl) ?_ _
   have hn4 := hn.far (p := ⟨w.heap.size, 0, none⟩) (fun e => by
    have e : ne = w.heap.size := e
    subst e
    unfold Blk at hn hbx3
    rw [hn] at hbx3
    injection hbx3 with h1
    injection h1 with _ h1 _
    exact absurd h1 (by decide)) (.pointer (some ⟨ne, 0, none⟩))
   have hbx4 := hbx3.set_ 0 (.pointer (some ⟨ne, 0, none⟩))
   simp at hbx4
   have hk4 := grown_set W3 w.heap.size 0 (.pointer (some ⟨ne, 0, none⟩))
   have hE4 : EnvF (W3.setCell ⟨w.heap.size, 0, none⟩ (.pointer (some ⟨ne, 0, none⟩))) (fun _ => True) e1 q := EnvF.keepC (T := [329]) (KeepC.grown hk4 fun g' cs t fr e hk => by
    injection e with e
    subst e
    unfold Blk at hbx3
    rw [hk] at hbx3
    injection hbx3 with h1
    injection h1 with _ h1 _
    simp [h1]) (by decide) hE3
   gi_wp2
   refine ⟨hk3.trans (KeepsOthers.setCell _ _ _), ⟨hb3.setCell (p := ⟨w.heap.size, 0, none⟩) (Nat.le_refl _) _, (Below.heap_setCell W3 ⟨w.heap.size, 0, none⟩ _ (w.heap.size + 1) (by simp)).trans hs3⟩, ⟨some ⟨ne, 0, none⟩, hbx4, ?_, by have := hk4.size; omega⟩, hB3.setCell (p := ⟨w.heap.size, 0, none⟩) (Nat.le_refl _) _⟩
   rw [HX.out]
   exact ⟨ne, q, rfl, trivial, hn4, hE4⟩
 case done =>
  rintro D ys W hD rfl ⟨⟨q, hbx, hE, hsz⟩, hB⟩ hK
  have b0 := hbx.cell 0
  simp at b0
  gi_wp2
  refine ⟨by simp, .inl ⟨_, _, rfl, run_takeDeferred hK, ?_⟩⟩
  refine ⟨_, results_tmp rfl _ _ _, q, rfl, ?_, hB.trans (belowK_b (w := w) (Nat.le_refl _) W D _ _ (by simp at hD; omega) hK rfl rfl)⟩
  rw [← envL_down, ← Hlv.out]
  exact hE.kept (grownBy_putObj' W D _) fun r e => by cases e; exact ⟨_, hK, rfl⟩
 case stop =>
  rintro D c pre W _ _ h _
  exact h.elim
end Go.Proofs.YtcjjfeephaddcaaGreatDoor
