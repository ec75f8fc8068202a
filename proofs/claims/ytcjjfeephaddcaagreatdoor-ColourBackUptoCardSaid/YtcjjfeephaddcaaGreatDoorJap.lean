/-
  JOINED of the texts EE EF SY SZ
-/
import Derived.Test.YtcjjfeephaddcaaGreatDoorJao
set_option linter.all false
namespace Go.Proofs.YtcjjfeephaddcaaGreatDoor
open Go.RowKit Go.Maps
theorem Sc.found_snoc (l : List Sc.It) (x : Sc.It) (n : Bs) : Sc.foundM (l ++ [x]) n = match Sc.foundM l n with
  | some k => some k
  | none => if Sc.named n x then some l.length else none := by
 unfold Sc.foundM
 rw [List.findIdx?_append]
 cases h : l.findIdx? (Sc.named n) with
 | some k => rfl
 | none =>
  by_cases hx : Sc.named n x = true
  ·simp [List.findIdx?_cons, hx]
  ·simp [List.findIdx?_cons, hx]
theorem Sc.twice_snoc {l : List Sc.It} {x : Sc.It} {k : Nat} (h : k < l.length) : Sc.twiceM (l ++ [x]) k = Sc.twiceM l k := by
 unfold Sc.twiceM
 rw [List.getElem?_append_left h, List.take_append_of_le_length (by omega)]
theorem Sc.found_any (l : List Sc.It) (n : Bs) : (Sc.foundM l n).isSome = l.any (Sc.named n) := by
 unfold Sc.foundM
 rw [List.findIdx?_isSome]
theorem Sc.twice_last (l : List Sc.It) (x : Sc.It) : Sc.twiceM (l ++ [x]) l.length = match x.name with
  | some w => (Sc.foundM l w.text).isSome
  | none => false := by
 unfold Sc.twiceM
 have h : (l ++ [x])[l.length]? = some x := by simp
 have h2 : (l ++ [x]).take l.length = l := by simp
 rw [h, h2]
 cases hx : x.name with
 | none => simp [hx]
 | some w => simp [hx, Sc.found_any]
theorem isKey_str {n : Bs} : WideAt.IsKeyLit (.string n) := by unfold WideAt.IsKeyLit; trivial
theorem MapIs.nil : MapIs (.map []) [] [] := fun n => ⟨rfl, fun k g h => by simp [Sc.foundM] at h⟩
theorem MapIs.skip {D : DataW Unit} {l : List Sc.It} {G : List Nat} (h : MapIs D l G) (hG : G.length = l.length) {x : Sc.It} {g : Nat} (hx : ∀ n, Sc.named n x = true → (Sc.foundM l n).isSome = true) : MapIs D (l ++ [x]) (G ++ [g]) := fun n => by
 have h1 := h n
 rw [Sc.found_snoc]
 cases hf : Sc.foundM l n with
 | some k =>
  rw [hf] at h1
  refine ⟨h1.1, fun k' g' e hg => ?_⟩
  injection e with e
  subst e
  obtain ⟨y, hy, _⟩ := Sc.found_at hf
  have hk := (List.getElem?_eq_some_iff.1 hy).1
  rw [List.getElem?_append_left (by omega)] at hg
  exact h1.2 k g' rfl hg
 | none =>
  rw [hf] at h1
  by_cases hn : Sc.named n x = true
  ·have := hx n hn
   rw [hf] at this
   cases this
  ·simp only [hn]
   exact ⟨h1.1, fun k g e => by cases e⟩
theorem MapIs.put {D : DataW Unit} {l : List Sc.It} {G : List Nat} (h : MapIs D l G) (hD : IsMap D) (hG : G.length = l.length) {x : Sc.It} {g : Nat} {w : Sc.Wd} (hw : x.name = some w) (hf : Sc.foundM l w.text = none) :
  MapIs (D.put (.string w.text) (.lit (.int .i64 (g : Int)))) (l ++ [x]) (G ++ [g]) := fun n => by
 have h1 := h n
 rw [Sc.found_snoc]
 by_cases e : n = w.text
 ·subst e
  rw [hf]
  have hn : Sc.named w.text x = true := by unfold Sc.named; rw [hw]; simp
  simp only [hn, if_true]
  refine ⟨has_put_same hD isKey_str _, fun k g' e hg => ?_⟩
  injection e with e
  subst e
  rw [← hG] at hg
  simp at hg
  subst hg
  exact atKey_put_same hD isKey_str _ _
 ·have hn : ¬ Sc.named n x = true := by
   unfold Sc.named
   rw [hw]
   simp
   exact fun h => e h.symm
  have hne : Lit.string n ≠ Lit.string w.text := fun h => e (by injection h)
  rw [has_put_other hne]
  cases hf' : Sc.foundM l n with
  | some k =>
   rw [hf'] at h1
   refine ⟨h1.1, fun k' g' e' hg => ?_⟩
   injection e' with e'
   subst e'
   obtain ⟨y, hy, _⟩ := Sc.found_at hf'
   have hk := (List.getElem?_eq_some_iff.1 hy).1
   rw [List.getElem?_append_left (by omega)] at hg
   rw [atKey_put_other hne]
   exact h1.2 k g' rfl hg
  | none =>
   rw [hf'] at h1
   simp only [hn]
   exact ⟨h1.1, fun k g e => by cases e⟩
def KeepM (T : List TypeId) (w w' : World) : Prop := ∀ k, k < w.heap.size → (∀ cs t fr, w.heap[k]? = some (.cells cs t fr) → t ∉ T) → w'.heap[k]? = w.heap[k]?
section
variable {T T' : List TypeId} {w w1 w' : World}
theorem KeepM.refl (T : List TypeId) (w : World) : KeepM T w w := fun _ _ _ => rfl
theorem KeepM.trans (h : KeepM T w w1) (hs : w.heap.size ≤ w1.heap.size) (h' : KeepM T w1 w') : KeepM T w w' := fun k hk ht => by
 have h1 := h k hk ht
 exact (h' k (Nat.lt_of_lt_of_le hk hs) fun cs t fr e => ht cs t fr (h1 ▸ e)).trans h1
theorem KeepM.below (hd : Below w.heap.size w w') : KeepM T w w' := fun k hk _ => hd.block k hk
theorem KeepM.grown {row : Option Nat} (hg : w.grownBy w' row) (hr : ∀ g, row = some g → ∃ cs t fr, w.heap[g]? = some (.cells cs t fr) ∧ t ∈ T) : KeepM T w w' := fun k hk ht =>
 hg.block k hk fun e => by
  obtain ⟨cs, t, fr, h1, h2⟩ := hr k e.symm
  exact ht cs t fr h1 h2
theorem KeepM.mono (h : KeepM T w w') (ht : ∀ t ∈ T, t ∈ T') : KeepM T' w w' := fun k hk hn => h k hk fun cs t fr e h' => hn cs t fr e (ht t h')
theorem KeepM.toC (h : KeepM T w w') : KeepC T w w' := fun k cs t fr hk ht => (h k (lt_heap hk) fun cs' t' fr' e => by
 rw [hk] at e
 injection e with e
 injection e with _ e _
 exact e ▸ ht).trans hk
end
def RowT (w : World) (t : TypeId) (F : Nat → Prop) (A : Option Addr) (vs : List Value) : Prop := RowF w F A vs ∧ ∀ br o, A = some ⟨br, o, none⟩ → 0 < vs.length → ∃ cs fr, w.heap[br]? = some (.cells cs t fr)
theorem RowT.keepC {T : List TypeId} {w w' : World} {t : TypeId} {F : Nat → Prop} {A : Option Addr} {vs : List Value} (h : RowT w t F A vs) (hs : w.heap.size ≤ w'.heap.size) (hk : KeepC T w w') (ht : t ∉ T) : RowT w' t F A vs := by
 have h0 := h
 obtain ⟨h1, h2⟩ := h
 refine ⟨fun hn => ?_, fun br o e hn => ?_⟩
 ·obtain ⟨b, o, e, hF, hl, hc⟩ := h1 hn
  obtain ⟨cs, fr, hty⟩ := h2 b o e hn
  exact ⟨b, o, e, hF, by omega, fun j u hu => (World.cell?_of_block (a := ⟨b, o + j, none⟩) ((hk b cs t fr hty ht).trans hty.symm)).trans (hc j u hu)⟩
 ·obtain ⟨cs, fr, hty⟩ := h2 br o e hn
  exact ⟨cs, fr, hk br cs t fr hty ht⟩
theorem WdR.keepC {T : List TypeId} {w w' : World} {F : Nat → Prop} {A : Option Addr} {ws : List (Option Sc.Wd)} (h : WdR w F A ws) (hty : ∀ br o, A = some ⟨br, o, none⟩ → 0 < ws.length → ∃ cs fr, w.heap[br]? = some (.cells cs 231 fr)) (hs : w.heap.size ≤ w'.heap.size) (hk : KeepC T w w') (ht : 237 ∉ T ∧ 231 ∉ T) :
  WdR w' F A ws ∧ ∀ br o, A = some ⟨br, o, none⟩ → 0 < ws.length → ∃ cs fr, w'.heap[br]? = some (.cells cs 231 fr) := by
 obtain ⟨vs, hr, hw⟩ := h
 have hl := hw.len
 have h1 : RowT w 231 F A vs := ⟨hr, fun br o e hn => hty br o e (by omega)⟩
 have h2 := h1.keepC hs hk ht.2
 exact ⟨⟨vs, h2.1, WdsF.keepC hw hk ht.1⟩, fun br o e hn => h2.2 br o e (by omega)⟩
theorem ItG.keepC {T : List TypeId} {w w' : World} {B : Nat} {P F : Nat → Prop} {x : Sc.It} {tw : Bool} {g : Nat} (h : ItG w P F x tw g) (hd : Below B w w') (hP : ∀ b, P b → b < B) (hs : w.heap.size ≤ w'.heap.size) (hk : KeepC T w w') (ht : 234 ∉ T ∧ 237 ∉ T ∧ 231 ∉ T) : ItG w' P F x tw g := by
 obtain ⟨h0, hkd, pb, nv, A, c, ev, mv, me, av, hB, hp, hn, hc, hr, hty, he, h1, h2, h3⟩ := h
 have kp : ∀ b, P b → b < w.heap.size → w'.heap[b]? = w.heap[b]? ∧ P b := fun b hb _ => ⟨hd.block b (hP b hb), hb⟩
 obtain ⟨r1, r2⟩ := hr.keepC hty hs hk ht.2
 exact ⟨h0, hkd, pb, nv, A, c, ev, mv, me, av, hB.keepC hk ht.1, PtF.keep hs kp _ _ hp, hn.keepC hk ht.2.1, hc, r1, r2, fun e => PtF.keep hs kp _ _ (he e), h1.keepC hk ht.2.1, h2.keepC hk ht.2.1, h3.keepC hk ht.2.1⟩
theorem ItG.below {w w' : World} {P F : Nat → Prop} {x : Sc.It} {tw : Bool} {g : Nat} (h : ItG w P F x tw g) (hd : Below w.heap.size w w') : ItG w' P F x tw g := by
 obtain ⟨h0, hkd, pb, nv, A, c, ev, mv, me, av, hB, hp, hn, hc, hr, hty, he, h1, h2, h3⟩ := h
 obtain ⟨r1, r2⟩ := hr.keepC hty hd.size (KeepC.below (T := []) hd) (by simp)
 exact ⟨h0, hkd, pb, nv, A, c, ev, mv, me, av, hB.below hd hB.lt, PtF.below hp hd, hn.below hd, hc, r1, r2, fun e => PtF.below (he e) hd, h1.below hd, h2.below hd, h3.below hd⟩
theorem ItG.mono {w : World} {P F F' : Nat → Prop} {x : Sc.It} {tw : Bool} {g : Nat} (h : ItG w P F x tw g) (hF : ∀ b, F b → F' b) : ItG w P F' x tw g := by
 obtain ⟨h0, hkd, pb, nv, A, c, ev, mv, me, av, hB, hp, hn, hc, hr, hty, he, h1, h2, h3⟩ := h
 have k2 : ∀ b, F b → b < w.heap.size → w.heap[b]? = w.heap[b]? ∧ F' b := fun b hb _ => ⟨rfl, hF b hb⟩
 exact ⟨hF g h0, hkd, pb, nv, A, c, ev, mv, me, av, hB, hp, hn.keep k2, hc, hr.keep (Nat.le_refl _) k2, hty, he, h1.keep k2, h2.keep k2, h3.keep k2⟩
theorem ItG.twice {w : World} {P F : Nat → Prop} {n : Nat} {x : Sc.It} {g : Nat} (h : ItG w P F x false g) (tw : Bool) (hP : ∀ b, P b → b < n) (hg : n ≤ g) : ItG (w.setCell ⟨g, 4, none⟩ (.bool tw)) P F x tw g := by
 obtain ⟨h0, hkd, pb, nv, A, c, ev, mv, me, av, hB, hp, hn, hc, hr, hty, he, h1, h2, h3⟩ := h
 have hK : KeepC [234] w (w.setCell ⟨g, 4, none⟩ (.bool tw)) := KeepC.set hB (by simp)
 have hs := (grown_set w g 4 (.bool tw)).size
 have kp : ∀ b, P b → b < w.heap.size → (w.setCell ⟨g, 4, none⟩ (.bool tw)).heap[b]? = w.heap[b]? ∧ P b := fun b hb hl => ⟨(grown_set w g 4 (.bool tw)).block b hl fun e => by injection e with e; have := hP b hb; omega, hb⟩
 obtain ⟨r1, r2⟩ := hr.keepC hty hs hK (by decide)
 have hB2 := hB.set_ 4 (.bool tw)
 unfold itC at hB2
 simp at hB2
 exact ⟨h0, hkd, pb, nv, A, c, ev, mv, me, av, hB2, PtF.keep hs kp _ _ hp, hn.keepC hK (by decide), hc, r1, r2, fun e => PtF.keep hs kp _ _ (he e), h1.keepC hK (by decide), h2.keepC hK (by decide), h3.keepC hK (by decide)⟩
theorem own_of_map {w w' : World} {B n : Nat} {t : TypeId} {size : Nat} {v : Value} {xs : List Value} {k : TypeId} {R : Value → Option (DataW Unit × List MemPlace)} {m N : Nat} {D : DataW Unit} (h : w.ownsRow B t size v n xs) (hm : w.ownsMap Tryz.prog k R m N D) (hg : w.grownBy w' (some m)) : w'.ownsRow B t size v n xs :=
 own_of_block h fun b hb => by
  obtain ⟨cs, fr, hty⟩ := own_ty h b hb
  exact hg.block b (h.lt b hb).2 fun e => map_ne hm hty (by injection e)
theorem KeepM.map {w w' : World} {k : TypeId} {R : Value → Option (DataW Unit × List MemPlace)} {m N : Nat} {D : DataW Unit} (hm : w.ownsMap Tryz.prog k R m N D) (hg : w.grownBy w' (some m)) : KeepC [] w w' :=
 KeepC.grown hg fun g cs t fr e hk => by injection e with e; exact absurd e.symm (map_ne hm hk)
structure FiI (w : World) (B : Nat) (P : Nat → Prop) (l : List Sc.It) (G Gr : List Nat) (m : Nat) (A : Option Addr) (c : Nat) : Prop where
 gl : G.length = l.length
 nd : G.Nodup
 its : ∀ (k : Nat) (x : Sc.It) (g : Nat), l[k]? = some x → G[k]? = some g → ItG w P (fun b => B ≤ b) x (Sc.twiceM l k) g
 row : w.ownsRow B 229 1 (.slice A Gr.length c) Gr.length (Gr.map ptrV)
 map : ∃ D, w.ownsMap Tryz.prog 9 itemElem m l.length D ∧ MapIs D l G
 mB : B ≤ m
section
variable {w w' : World} {B : Nat} {P : Nat → Prop} {l : List Sc.It} {G Gr : List Nat} {m : Nat} {A : Option Addr} {c : Nat}
theorem FiI.lt (h : FiI w B P l G Gr m A c) {g : Nat} (hg : g ∈ G) : g < w.heap.size := by
 obtain ⟨k, hk, e⟩ := List.getElem_of_mem hg
 obtain ⟨_, _, pb, nv, A, c, ev, mv, me, av, hB, _⟩ := h.its k (l[k]'(by rw [← h.gl]; exact hk)) g (List.getElem?_eq_getElem _) (by rw [← e]; exact List.getElem?_eq_getElem _)
 exact hB.lt
theorem FiI.below (h : FiI w B P l G Gr m A c) (hd : Below w.heap.size w w') : FiI w' B P l G Gr m A c := by
 obtain ⟨D, h1, h2⟩ := h.map
 exact ⟨h.gl, h.nd, fun k x g hx hg => (h.its k x g hx hg).below hd, own_of_block h.row fun b hb => hd.block b (h.row.lt b hb).2, ⟨D, own_map_keep h1 (hd.block m h1.lt), h2⟩, h.mB⟩
theorem FiI.skip (h : FiI w B P l G Gr m A c) {x : Sc.It} {g : Nat} (hx : ItG w P (fun b => B ≤ b) x (Sc.twiceM (l ++ [x]) l.length) g) (hnew : g ∉ G) (hn : ∀ n, Sc.named n x = true → (Sc.foundM l n).isSome = true) : FiI w B P (l ++ [x]) (G ++ [g]) Gr m A c := by
 obtain ⟨D, h1, h2⟩ := h.map
 refine ⟨by simp [h.gl], List.nodup_append.2 ⟨h.nd, by simp, fun a ha b hb => ?_⟩, fun k y g' hy hg => ?_, h.row, ⟨D, h1.mono (by simp), h2.skip h.gl hn⟩, h.mB⟩
 ·rw [List.mem_singleton] at hb
  subst hb
  exact fun e => hnew (e ▸ ha)
 ·rcases Nat.lt_or_ge k l.length with hk | hk
  ·rw [List.getElem?_append_left hk] at hy
   rw [List.getElem?_append_left (by rw [h.gl]; exact hk)] at hg
   rw [Sc.twice_snoc hk]
   exact h.its k y g' hy hg
  ·have hk' := (List.getElem?_eq_some_iff.1 hy).1
   simp at hk'
   obtain rfl : k = l.length := by omega
   simp at hy
   rw [← h.gl] at hg
   simp at hg
   subst hy hg
   exact hx
theorem FiI.put (h : FiI w B P l G Gr m A c) (hP : ∀ b, P b → b < B) {x : Sc.It} {g : Nat} {y : Sc.Wd} (hx : ItG w P (fun b => B ≤ b) x (Sc.twiceM (l ++ [x]) l.length) g) (hnew : g ∉ G) (hw : x.name = some y) (hf : Sc.foundM l y.text = none)
  (hg : w.grownBy w' (some m)) {D : DataW Unit} (hm : w.ownsMap Tryz.prog 9 itemElem m l.length D) (hD : MapIs D l G) (hm' : w'.ownsMap Tryz.prog 9 itemElem m (l.length + 1) (D.put (.string y.text) (.lit (.int .i64 (g : Int))))) : FiI w' B P (l ++ [x]) (G ++ [g]) Gr m A c := by
 have hK := KeepM.map hm hg
 have hd : Below B w w' := ⟨hg.os, hg.tape, hg.output, hg.size, fun k hk => hg.block k (Nat.lt_of_lt_of_le hk (Nat.le_trans h.mB (Nat.le_of_lt hm.lt))) fun e => by injection e with e; have := h.mB; omega⟩
 refine ⟨by simp [h.gl], List.nodup_append.2 ⟨h.nd, by simp, fun a ha b hb => ?_⟩, fun k z g' hy hg' => ?_, own_of_map h.row hm hg, ⟨_, by rw [List.length_append]; exact hm', hD.put hm.isMap h.gl hw hf⟩, h.mB⟩
 ·rw [List.mem_singleton] at hb
  subst hb
  exact fun e => hnew (e ▸ ha)
 ·rcases Nat.lt_or_ge k l.length with hk | hk
  ·rw [List.getElem?_append_left hk] at hy
   rw [List.getElem?_append_left (by rw [h.gl]; exact hk)] at hg'
   rw [Sc.twice_snoc hk]
   exact (h.its k z g' hy hg').keepC hd hP hg.size hK (by simp)
  ·have hk' := (List.getElem?_eq_some_iff.1 hy).1
   simp at hk'
   obtain rfl : k = l.length := by omega
   simp at hy
   rw [← h.gl] at hg'
   simp at hg'
   subst hy hg'
   exact hx.keepC hd hP hg.size hK (by simp)
theorem FiI.push (h : FiI w B P l G Gr m A c) (hP : ∀ b, P b → b < B) {A' : Option Addr} {c' : Nat} (hown : w'.ownsRow B 229 1 (.slice A' G.length c') G.length (G.map ptrV)) (hd : Below B w w') (hg : w.grownBy w' (Value.slice A Gr.length c).ownBlock) : FiI w' B P l G G m A' c' := by
 obtain ⟨D, h1, h2⟩ := h.map
 have hK : KeepC [229] w w' := KeepC.grown hg fun g cs t fr e hk => by
  obtain ⟨cs', fr', h3⟩ := own_ty h.row g e
  rw [hk] at h3
  injection h3 with h3
  injection h3 with _ h3 _
  simp [h3]
 refine ⟨h.gl, h.nd, fun k x g hx hg' => (h.its k x g hx hg').keepC hd hP hg.size hK (by decide), hown, ⟨D, h1.kept hg fun e => ?_, h2⟩, h.mB⟩
 obtain ⟨cs, fr, h3⟩ := own_ty h.row m e.symm
 exact map_ne h1 h3 rfl
end
theorem kds_one {w : World} {F : Nat → Prop} : ∀ {l : List Tr.Kd} {vs : List Value}, KdsF w F l vs → ∀ u ∈ vs, u.oneCell' = true
 | [], vs, h, u, hu => by
  obtain rfl : vs = [] := h
  cases hu
 | k :: l, vs, h, u, hu => by
  obtain ⟨q, vs', rfl, _, hl⟩ := h
  simp only [List.mem_cons] at hu
  rcases hu with rfl | rfl | rfl | rfl | hu
  ·rfl
  ·rfl
  ·rfl
  ·rfl
  ·exact kds_one hl u hu
theorem KdsF.below {w w' : World} {F : Nat → Prop} {l : List Tr.Kd} {vs : List Value} (h : KdsF w F l vs) (hd : Below w.heap.size w w') : KdsF w' F l vs := KdsF.keep hd.size (fun b hF hl => ⟨hd.block b hl, hF⟩) _ _ h
def KidsE (ks : List Tr.Kd) (vs : List Value) (w : World) (F : Nat → Prop) (e : Ending) (w' : World) : Prop :=
 ∃ A c, e = .returned (.slice A ks.length c) ∧ w'.ownsRow w.heap.size 116 4 (.slice A ks.length c) ks.length vs ∧ KdsF w' F ks vs ∧ Below w.heap.size w w'
set_option maxHeartbeats 2000000 in
set_option maxRecDepth 100000 in
theorem kclone_walk {w : World} {F : Nat → Prop} {ks : List Tr.Kd} {vs : List Value} {A : Option Addr} {c : Nat} (hr : RowF w F A vs) (hk : KdsF w F ks vs) (hl : ks.length ≤ 1000000000) :
  Calls Tryz.prog 89 #[.slice A ks.length c] w (KidsE ks vs w F) := by
 obtain ⟨i0, ji, jz0, jz1, jz2⟩ := info_parts infoKid
 have hlen := hk.len
 cases A with
 | none =>
  have h1 : ks = [] := by
   rcases Nat.eq_zero_or_pos vs.length with h0 | h0
   ·exact List.eq_nil_of_length_eq_zero (by omega)
   ·obtain ⟨b, o, e, _⟩ := hr h0
    cases e
  subst h1
  obtain rfl : vs = [] := hk
  have hnl := fun w : World => Lib.run_eql_slice_nil (P := Tryz.prog) w 112 116 none 0 c 0 0 Tryz.underlying112
  clear hr hlen hl
  simp only [List.length_nil] at *
  go_enter Tryz.func89, Tryz.ntmps89
  go_wp2
  go_ret
  exact ⟨_, _, rfl, World.ownsRow_nil _ _ _ _, rfl, Below.refl _ _⟩
 | some ad =>
  have h2 : ∀ j u, vs[j]? = some u → w.cell? (ad.add j) = some u := fun j u hj => by
   have hj' := (List.getElem?_eq_some_iff.1 hj).1
   obtain ⟨b, o, e, _, _, hc⟩ := hr (by omega)
   injection e with e
   subst e
   have := hc j u hj
   unfold Addr.add
   split
   ·rename_i h0; subst h0; simpa using this
   ·exact this
  have hO := World.ownsRow_lit (base := w.heap.size) (e := 116) (size := 4) w #[] 0 (Nat.le_refl _) (by unfold maxLen; omega) rfl
  have h3 : ∀ j u, vs[j]? = some u → (w.alloc (.cells #[] 116)).cell? (ad.add j) = some u := fun j u hu => by
   have h4 := h2 j u hu
   have h5 := World.block_lt_of_cell? w _ h4
   rw [World.cell?_of_block (Below.heap_alloc w _ _ h5)]; exact h4
  have H3 := Lib.hid h3
  have hb : Below w.heap.size w (w.alloc (.cells #[] 116)) := (Below.refl _ _).alloc (Nat.le_refl _) _
  have h1 := kds_one hk
  have Hlen := Lib.hid hlen
  have Hl := Lib.hid hl
  have Hk := Lib.hid hk
  clear h2 h3 hr hlen hl hk
  generalize hN : ks.length = N at *
  have HN := Lib.hid hN
  clear hN
  have hnl := fun w : World => Lib.run_eql_slice_nil (P := Tryz.prog) w 112 116 (some ad) N c 0 0 Tryz.underlying112
  go_enter Tryz.func89, Tryz.ntmps89
  go_wp2_with (at_builtin; refine wpList_append_own _ rfl _ _ 112 rfl w.heap.size 116 i0 _ 4 32 Tryz.underlying112 ji jz0 jz1 jz2 rfl (by omega) _ 0 _ rfl hO ad N c vs rfl Hlen.out H3.out h1 (by have := Hl.out; unfold maxLen; omega) (by have := Hl.out; omega) (by simp) ?_; intro v' w4 hown4 hgrow _)
  go_ret
  have hown5 : w4.ownsRow w.heap.size 116 4 v' N vs := by simpa using hown4
  obtain ⟨A', c', rfl, _⟩ := own_cap hown5
  have hd := hb.grown hgrow hb.size fun g hg => (hO.lt g hg).1
  obtain rfl := HN.out
  exact ⟨A', c', rfl, hown5, Hk.out.below hd, hd⟩
set_option maxHeartbeats 2000000 in
set_option maxRecDepth 100000 in
theorem kids_walk {w : World} {F : Nat → Prop} {gt d : Nat} {A : Option Addr} {c : Nat} {T : List Tk} {ks : List Tr.Kd} {ts : List Tr.PT} (h : TreeIs w F gt d A c T ks ts) (hl : ks.length ≤ 1000000000) :
  Calls Tryz.prog 45 #[.pointer (some ⟨gt, 0, none⟩)] w (fun e w' => ∃ vs, KidsE ks vs w F e w') := by
 obtain ⟨Av, cv, At, ct, vs, us, hB, _, _, hr, hk, _, _⟩ := h.ex
 have hc := kclone_walk (c := cv) hr hk hl
 have b2 := hB.cell 2
 simp at b2
 clear hr hk hl hB h
 generalize ks.length = N at *
 go_enter Tryz.func45, Tryz.ntmps45
 go_wp2_with fail
 refine hc.mono ?_
 clear hc
 rintro e w1 ⟨A', c', rfl, hown, hk, hd⟩
 go_wp2_with fail
 go_ret
 exact ⟨vs, A', c', rfl, hown, hk, hd⟩
theorem es_size {k a : Nat} {l : List Tr.PT} {p : Tr.PT} (h : p ∈ l ∨ ∃ k2 a2 m, k = 11 ∧ .branch k2 a2 m ∈ l ∧ p ∈ m) : SizeOf.sizeOf p < SizeOf.sizeOf (Tr.PT.branch k a l) := by
 rcases h with h | ⟨k2, a2, m, _, h1, h2⟩
 ·have := List.sizeOf_lt_of_mem h
  simp; omega
 ·have h3 := List.sizeOf_lt_of_mem h1
  have h4 := List.sizeOf_lt_of_mem h2
  simp at h3 ⊢
  omega
theorem shs_of_br {k2 a2 : Nat} {l m : List Tr.PT} {p : Tr.PT} (hs : Sc.shsP l) (h1 : .branch k2 a2 m ∈ l) (h2 : p ∈ m) : Sc.shP p := by
 have := (Sc.shs_mem l).1 hs _ h1
 unfold Sc.shP at this
 exact (Sc.shs_mem m).1 this.2 _ h2
theorem low_of_br {b k2 a2 : Nat} {l m : List Tr.PT} {p : Tr.PT} (hs : lowsP b l) (h1 : .branch k2 a2 m ∈ l) (h2 : p ∈ m) : lowP b p := by
 have := lows_mem hs _ h1
 unfold lowP at this
 exact lows_mem this.2 _ h2
section
variable {σ : Type} {Fn : Nat} {caps : Array Value} {w0 : World} {F : Nat → Prop} {T : List TypeId} {x : Sc.It} {ib : Nat} {Q : Tr.PT → Prop} {G : σ → Prop} {st : Sc.Env → Tr.PT → σ → σ} {I : σ → World → Prop}
theorem VisE.kids (V : VisE Fn caps w0 F T x ib Q G st I) {k a : Nat} {l : List Tr.PT} (hsh : Sc.shP (.branch k a l)) (hlo : lowP x.base (.branch k a l)) (hQ : Q (.branch k a l)) : ∀ p ∈ esOf k l, Sc.shP p ∧ Sc.isExpr p = true ∧ lowP x.base p ∧ Q p ∧ SizeOf.sizeOf p < SizeOf.sizeOf (Tr.PT.branch k a l) := fun p hp => by
 unfold Sc.shP at hsh
 unfold lowP at hlo
 obtain ⟨h1, h2⟩ := es_mem hsh.1 hp
 obtain ⟨_, q2, q3⟩ := V.sub k a l hQ
 refine ⟨?_, h1, ?_, ?_, es_size h2⟩
 all_goals rcases h2 with h2 | ⟨k2, a2, m, h3, h4, h5⟩
 ·exact (Sc.shs_mem l).1 hsh.2 _ h2
 ·exact shs_of_br hsh.2 h4 h5
 ·exact lows_mem hlo.2 _ h2
 ·exact low_of_br hlo.2 h4 h5
 ·exact q2 p h2 h1
 ·exact (q3 h3 k2 a2 m h4).2 p h5 h1
set_option maxHeartbeats 16000000 in
set_option maxRecDepth 100000 in
theorem walk_fun (V : VisE Fn caps w0 F T x ib Q G st I) (a : Nat) (l : List Tr.PT) (ih : ∀ p, SizeOf.sizeOf p < SizeOf.sizeOf (Tr.PT.branch 9 a l) → WalkE Fn caps F T x ib Q G st I p) : WalkE Fn caps F T x ib Q G st I (.branch 9 a l) := by
 intro e ep up pv vb s w hsh _ hlo hQ hI hp he hv hG
 have hkids := V.kids hsh hlo hQ
 unfold Sc.shP at hsh
 unfold lowP at hlo
 obtain ⟨hll, hlow⟩ := hlo
 obtain ⟨y0, y1, r, hs, _, hb1, _⟩ := hsh.1.2.1 rfl
 have hy : Sc.atP (Sc.senseP (.branch 9 a l)) 1 = y1 := by show Sc.atP (Sc.senseL l) 1 = y1; rw [hs]; rfl
 have e1 : Sc.env1 x e (.branch 9 a l) = Sc.innerM (Sc.wordsOf x.base y1) e := by
  have : Sc.env1 x e (.branch 9 a l) = Sc.innerM (Sc.wordsOf x.base (Sc.atP (Sc.senseP (.branch 9 a l)) 1)) e := rfl
  rw [this, hy]
 have e2 : Sc.env2 x e (.branch 9 a l) = Sc.innerM (Sc.wordsOf x.base y1) e := e1
 have hS := walk_es (x := x) (st := st) (e := e) (a := a) (s := s) hsh.1 hsh.2 (by omega)
 rw [e1, e2] at hS
 rw [hS] at hG ⊢
 have hcl := V.call e _ pv ep up vb s w hQ hp he hv hI (goS_back V.back _ _ _ _ hG)
 have hrun := V.run
 have hy1 : lowP x.base y1 := lows_mem hlow y1 (sense_mem (by rw [hs]; simp))
 have he3 : esOf 9 l = Sc.exprsL l := rfl
 rw [he3] at hG hkids ⊢
 have hp0 := hp
 obtain ⟨g, rfl, _⟩ := hp0
 have has := fun w => as_branch_branch ⟨g, 0, none⟩ w
 have Hp := Lib.hid hp
 have He := Lib.hid he
 have Hv := Lib.hid hv
 have HI := Lib.hid hI
 cases y1 with
 | leaf _ _ _ => cases hb1
 | gap _ _ _ => cases hb1
 | branch k2 a2 m =>
 have Hs := Lib.hid hs
 have Hb1 := Lib.hid hb1
 clear e1 e2 hS hp he hv hI hs hy he3 hb1 hsh hlow
 generalize st e (.branch 9 a l) s = s1 at *
 generalize hws : Sc.wordsOf x.base (.branch k2 a2 m) = ws at *
 generalize hen : Sc.innerM ws e = en at *
 have Hws := Lib.hid hws
 have Hen := Lib.hid hen
 have hlen : (Sc.exprsL l).length ≤ 1000000000 := Nat.le_trans (Sc.exprs_take1_le l) hll
 clear hws hen
 unfold ptrV
 go_enter Tryz.func211, Tryz.ntmps211
 go_wp2_with fail
 refine hcl.mono ?_
 clear hcl
 rintro e' w1 ⟨rfl, hI1, hK1⟩
 have hp1 := Hp.out.same (V.same HI.out hI1)
 have hv1 := Hv.out.keepC hK1 V.types.2.1
 have he1 := EnvF.keepC hK1 V.types.1 He.out
 have hp10 := hp1
 obtain ⟨g', eg, hFg, Al, cl, vl, hgB, _⟩ := hp10
 injection eg with _ eg
 injection eg with eg
 injection eg with eg
 injection eg with eg
 subst eg
 have g0 := hgB.cell 0
 have v0 := hv1.cell 0
 simp at g0 v0
 have hex := exprs_walk hp1 hll
 clear Hp He Hv hgB
 go_wp2_with fail
 refine hex.mono ?_
 clear hex g0 v0
 rintro e' w2 ⟨A, c, vs, rfl, hown, hps, hd2⟩
 have hI2 := V.below _ _ _ hI1 hd2
 have hK2 := hK1.trans (KeepC.below hd2)
 have hp2 := hp1.same (V.same hI1 hI2)
 have hv2 := hv1.below hd2 hv1.lt
 have he2 := he1.below hd2
 clear hp1 hv1 he1 hd2 hK1 hI1 HI
 generalize hL : Sc.exprsL l = L at *
 have HL := Lib.hid hL
 clear hL
 have Hlen := Lib.hid hlen
 clear hlen
 go_wp2_with fail
 go_loopg [36] L.length (fun m u wr => ∃ i : Nat, u = .int .i64 (i : Int) ∧ i ≤ L.length ∧ L.length - i ≤ m ∧ I (goS x st en en (L.take i) s1) wr ∧ KeepC T w2 wr)
 case atStart => exact ⟨0, rfl, Nat.zero_le _, Nat.le_refl _, hI2, KeepC.refl _ _⟩
 case round =>
  obtain ⟨i, rfl, hi, hm, hIr, hKr⟩ := hrel
  by_cases hlt : i < L.length
  ·have ii0 : (0 : Int) ≤ (i : Int) := by omega
   have ii1 : (i : Int) < (L.length : Int) := by omega
   obtain ⟨v, hv', hpv⟩ := hps.at_ hlt
   obtain ⟨r0, rfl, hc⟩ := own_at hown (by omega)
   obtain ⟨ct, fr, hty⟩ := own_ty hown r0 rfl
   have q0 : wr.cell? ⟨r0, i, none⟩ = some v := (World.cell?_of_block (w := w2) (a := ⟨r0, i, none⟩) ((hKr r0 _ _ _ hty V.types.2.2).trans hty.symm)).trans (hc _ _ hv')
   obtain ⟨kd, gv, rfl⟩ := hpv.form
   have HT : Hid (goS x st en en (L.take (i + 1)) s1 = walkS x st en L[i] (goS x st en en (L.take i) s1)) := by show _ = _; rw [go_take x st en en L i hlt, ite_self]
   have hGi := goS_part V.back hG i hlt
   rw [ite_self] at hGi
   obtain ⟨k1, k2', k3, k4, k5⟩ := hkids _ (List.getElem_mem hlt)
   have hih := ih _ k5
   have hpr := hpv.same (V.same hI2 hIr)
   have hprr := hp2.same (V.same hI2 hIr)
   have hvr := hv2.keepC hKr V.types.2.1
   have her := EnvF.keepC hKr V.types.1 he2
   have c1 : IntKind.i64.wrap ((i : Int) + 1) = (i : Int) + 1 := IntWalk.i64_in _ (by have := Hlen.out; omega)
   have v1 := hvr.cell 1
   simp at v1
   generalize L[i] = p at *
   generalize goS x st en en (L.take i) s1 = sj at *
   have Hlt := Lib.hid hlt
   have Hm := Lib.hid hm
   clear hv' hc hty hpv hlt hm hi
   go_upto_region 7 with fail
   refine wp_region_G 100 (fun w' : World => w'.cell? ⟨vb, 1, none⟩ = some (.pointer ep)) (by kernel_rfl) ?_
   have hd3 : Below wr.heap.size wr wr.drew := (Below.refl _ _).drew
   have hI3 := V.below _ _ _ hIr hd3
   have hK3 := hKr.drew
   have hp3 := hpr.below hd3
   have hpp3 := hprr.below hd3
   have hv3 := hvr.drew
   have he3 := her.below hd3
   have hS0 : (fun w' : World => w'.cell? ⟨vb, 1, none⟩ = some (.pointer ep)) wr.drew := v1
   clear q0 v1 hIr hKr hpr hprr hvr her hd3
   generalize wr.drew = w3 at *
   refine wpAnyG_tk 0 hS0 ?_
   simp only [Act.put, List.setIfInBounds_toArray]
   refine wpAnyG_tk 1 hS0 ?_
   simp only [Act.put]
   refine wpAnyG_tk 2 hS0 ?_
   simp only [Act.put]
   refine wpAnyG_tk 3 hS0 ?_
   simp only [Act.put]
   refine wpAnyG_tk 4 hS0 ?_
   simp only [Act.put]
   refine wpAnyG_tk 5 hS0 ?_
   simp only [Act.put]
   refine wpAnyG_tk 6 hS0 ?_
   simp only [Act.put]
   refine wpAnyG_tk 7 hS0 ?_
   simp only [Act.put]
   refine wpAnyG_tk 11 hS0 ?_
   simp only [Act.put]
   refine wpAnyG_tk 14 hS0 ?_
   simp only [Act.put]
   clear hS0
   have hpar := tparams_walk hpp3 hll Hs.out Hb1.out
   refine wpAnyG_on 8 fun C hC => ?_
   go_simp
   refine hpar.mono ?_
   clear hpar
   rintro e3 w4 ⟨g2, rfl, hq4, hd4⟩
   have hI4 := V.below _ _ _ hI3 hd4
   have hK4 := hK3.trans (KeepC.below hd4)
   have hp4 := hp3.below hd4
   have hv4 := hv3.below hd4 hv3.lt
   have he4 := he3.below hd4
   refine hC.out _ _ (fun _ => by have := hv4.cell 1; simpa using this) ?_
   clear hC C hI3 hK3 hp3 hpp3 hv3 he3 hd4
   unfold lowP at hy1
   obtain ⟨ics, hib, hib1⟩ := V.base _ _ hI4
   have hwo := sc_wordsOf hq4 hy1.1 (ib := ib) (b := x.base) ((hib.cell 1).trans hib1) (low_names hy1.2)
   rw [Hws.out] at hwo
   refine wpAnyG_on 9 fun C hC => ?_
   go_simp
   refine hwo.mono ?_
   clear hwo hib hib1
   rintro e4 w5 ⟨A4, c4, vs4, rfl, hown4, hws4, hd5⟩
   have hI5 := V.below _ _ _ hI4 hd5
   have hK5 := hK4.trans (KeepC.below hd5)
   have hp5 := hp4.below hd5
   have hv5 := hv4.below hd5 hv4.lt
   have he5 := he4.below hd5
   refine hC.out _ _ (fun _ => by have := hv5.cell 1; simpa using this) ?_
   obtain ⟨hcap, hrow, _⟩ := own_cap_row hown4 (fun y => w4.heap.size ≤ y) (fun y hy => hy)
   have hwl : ws.length ≤ 1000000000 := by
    rw [← Hws.out]
    have h1 : (Sc.wordsOf x.base (.branch k2 a2 m)).length = (Sc.namesL m).length := by unfold Sc.wordsOf Sc.namesP Sc.namesL; rw [List.length_map]; rfl
    rw [h1]
    exact Nat.le_trans (Sc.names_take1_le m) hy1.1
   have hin := sc_inner he5 (A := A4) (c := c4) ⟨vs4, hrow, hws4⟩ hwl
   rw [Hen.out] at hin
   clear hC C hI4 hK4 hp4 hv4 he4 hd5 hq4 hown4 hws4 hrow hcap
   refine wpAnyG_on 10 fun C hC => ?_
   go_simp
   refine hin.mono ?_
   clear hin hwl
   rintro e5 w6 ⟨q, rfl, he6, hd6⟩
   have hI6 := V.below _ _ _ hI5 hd6
   have hK6 := hK5.trans (KeepC.below hd6)
   have hp6 := hp5.below hd6
   have hv6 := hv5.below hd6 hv5.lt
   refine hC.out _ _ (fun _ => by have := hv6.cell 1; simpa using this) ?_
   clear hC C hI5 hK5 hp5 hv5 he5 hd6
   have hS6 : (fun w' : World => w'.cell? ⟨vb, 1, none⟩ = some (.pointer ep)) w6 := by have := hv6.cell 1; simpa using this
   refine wpAnyG_tk 12 hS6 ?_
   simp only [Act.put]
   clear hS6
   have hd7 : Below w6.heap.size w6 (w6.alloc (.cells #[.iface kd (.pointer (some ⟨gv, 0, none⟩)), .pointer q, .pointer (some ⟨g, 0, none⟩)] 333)) := (Below.refl _ _).alloc (Nat.le_refl _) _
   have hn := Blk.new w6 333 #[.iface kd (.pointer (some ⟨gv, 0, none⟩)), .pointer q, .pointer (some ⟨g, 0, none⟩)]
   have hI7 := V.below _ _ _ hI6 hd7
   have hK7 := hK6.trans (KeepC.below hd7)
   have hp7 := hp6.below hd7
   have hv7 := hv6.below hd7 hv6.lt
   have he7 := he6.below hd7
   have HS7 : Hid ((w6.alloc (.cells #[.iface kd (.pointer (some ⟨gv, 0, none⟩)), .pointer q, .pointer (some ⟨g, 0, none⟩)] 333)).cell? ⟨vb, 1, none⟩ = some (.pointer ep)) := by have := hv7.cell 1; show _ = _; simpa using this
   clear hI6 hK6 hp6 hv6 he6 hd7
   refine wpAnyG_on 13 fun C hC => ?_
   go_simp
   refine hC.out _ _ (fun _ => HS7.out) ?_
   clear hC C
   clear HS7
   obtain ⟨ne, hne⟩ : ∃ ne, ne = w6.heap.size := ⟨_, rfl⟩
   rw [← hne] at hn ⊢
   clear hne
   generalize w6.alloc (.cells #[.iface kd (.pointer (some ⟨gv, 0, none⟩)), .pointer q, .pointer (some ⟨g, 0, none⟩)] 333) = w7 at *
   have hcl8 := hih en q (.pointer (some ⟨g, 0, none⟩)) _ ne sj w7 k1 k2' k3 k4 hI7 hp7 he7 hn hGi
   clear hih hI7 hp7 he7 hn hGi k1 k2' k3 k4 k5
   unfold ptrV at hcl8
   refine wpAnyG_on 15 fun C hC => ?_
   go_simp
   refine hcl8.mono ?_
   clear hcl8
   rintro e8 w8 ⟨rfl, hI8, hK8⟩
   refine hC.out _ _ (fun _ => by have := (hv7.keepC hK8 V.types.2.1).cell 1; simpa using this) ?_
   clear hC C hv7
   refine wpAnyG_done (by kernel_rfl) ?_ _
   go_wp2_with fail
   go_roundg (L.length - (i + 1))
   case rel => exact ⟨i + 1, by go_num, by have := Hlt.out; omega, Nat.le_refl _, by rw [HT.out]; exact hI8, hK7.trans hK8⟩
   case measure => have := Hlt.out; have := Hm.out; omega
  ·obtain rfl : i = L.length := by omega
   rw [List.take_length] at hIr
   go_wp2_with fail
   refine bodyPost_ret (results_none rfl _ _ _) rfl ?_
   exact ⟨rfl, by rw [HL.out]; exact hIr, hK2.trans hKr⟩
end
theorem PtsF.cells1 {w : World} {F : Nat → Prop} : ∀ {l : List Tr.PT} {vs : List Value}, PtsF w F l vs → ∀ u ∈ vs, u.oneCell' = true
 | [], vs, h, u, hu => by have h : vs = [] := h; subst h; exact absurd hu (by simp)
 | p :: l, vs, h, u, hu => by
  obtain ⟨v, vs', rfl, hp, hl⟩ := h
  rcases List.mem_cons.1 hu with rfl | hu
  ·obtain ⟨t, g, rfl⟩ := hp.form
   rfl
  ·exact PtsF.cells1 hl u hu
theorem env2_let {x : Sc.It} {e : Sc.Env} {a : Nat} {l : List Tr.PT} {y0 y1 : Tr.PT} {r : List Tr.PT} (hs : Sc.senseL l = y0 :: y1 :: r) : Sc.env2 x e (.branch 7 a l) = pushE (Sc.wordOf x.base y1) e := by
 have hy : Sc.atP (Sc.senseP (.branch 7 a l)) 1 = y1 := by show Sc.atP (Sc.senseL l) 1 = y1; rw [hs]; rfl
 unfold Sc.env2
 have h7 : Sc.kindOf (.branch 7 a l) = 7 := rfl
 rw [h7, if_neg (by omega), if_pos rfl]
 unfold Sc.letM
 rw [hy]
 rfl
def LetS2 (ib lf : Nat) (t : Bs) (b a : Nat) (w' : World) : Prop := w'.cell? ⟨lf, 1, none⟩ = some (.string ⟨t.toArray⟩) ∧ w'.cell? ⟨ib, 1, none⟩ = some (.int .i64 (b : Int)) ∧ w'.cell? ⟨lf, 2, none⟩ = some (.int .i64 (a : Int))
section
variable {σ : Type} {Fn : Nat} {caps : Array Value} {w0 : World} {F : Nat → Prop} {T : List TypeId} {x : Sc.It} {ib : Nat} {Q : Tr.PT → Prop} {G : σ → Prop} {st : Sc.Env → Tr.PT → σ → σ} {I : σ → World → Prop}
set_option maxHeartbeats 16000000 in
set_option maxRecDepth 100000 in
theorem walk_more (V : VisE Fn caps w0 F T x ib Q G st I) (k a : Nat) (l : List Tr.PT) (hk9 : k ≠ 9) (ih : ∀ p, SizeOf.sizeOf p < SizeOf.sizeOf (Tr.PT.branch k a l) → WalkE Fn caps F T x ib Q G st I p) : WalkE Fn caps F T x ib Q G st I (.branch k a l) := by
 obtain ⟨i0, ji, jz0, jz1, jz2⟩ := info_parts bd_part
 intro e ep up pv vb s w hsh hex hlo hQ hI hp he hv hG
 have hk12 : k ≠ 12 := fun h => by subst h; simp [Sc.isExpr] at hex
 have hkids := VisE.kids V hsh hlo hQ
 have hsh0 := hsh
 unfold Sc.shP at hsh
 unfold lowP at hlo
 obtain ⟨hll, hlow⟩ := hlo
 have e1 : Sc.env1 x e (.branch k a l) = e := by
  unfold Sc.env1
  have h7 : Sc.kindOf (.branch k a l) = k := rfl
  rw [h7, if_neg hk9]
 have hS := walk_es (x := x) (st := st) (e := e) (a := a) (s := s) hsh.1 hsh.2 hk12
 rw [e1] at hS
 rw [hS] at hG ⊢
 have hcl := V.call e _ pv ep up vb s w hQ hp he hv hI (goS_back V.back _ _ _ _ hG)
 have hrun := V.run
 have he2 : (k ≠ 7 → Sc.env2 x e (.branch k a l) = e) ∧ (k = 7 → ∃ y0 y1 r, Sc.senseL l = y0 :: y1 :: r ∧ Sc.isBr y1 = false ∧ lowP x.base y1 ∧ (esOf k l).length = 2 ∧ Sc.env2 x e (.branch k a l) = pushE (Sc.wordOf x.base y1) e) := by
  refine ⟨fun h => ?_, fun h => ?_⟩
  ·unfold Sc.env2
   have h7 : Sc.kindOf (.branch k a l) = k := rfl
   rw [h7, if_neg hk9, if_neg h]
  ·subst h
   obtain ⟨⟨y0, y1, r, hs, _, _, hb1⟩, hl2⟩ := hsh.1.1 rfl
   exact ⟨y0, y1, r, hs, hb1, lows_mem hlow y1 (sense_mem (by rw [hs]; simp)), hl2, env2_let hs⟩
 have hes : (k ≠ 11 → esOf k l = Sc.exprsL l) ∧ (k = 11 → ∃ c a2 m, Sc.senseL l = [c, .branch 12 a2 m] ∧ m.length ≤ 1000000000 ∧ esOf k l = Sc.exprsL l ++ Sc.exprsL m) := by
  refine ⟨fun h => by unfold esOf; rw [if_neg h], fun h => ?_⟩
  subst h
  obtain ⟨c, a', rfl, hc, hb, hk2⟩ := hsh.1.2.2.2.1 rfl
  cases a' with
  | leaf _ _ _ => cases hb
  | gap _ _ _ => cases hb
  | branch k2 a2 m =>
   have hk2 : k2 = 12 := hk2
   subst hk2
   have h1 := lows_mem hlow (.branch 12 a2 m) (by simp)
   unfold lowP at h1
   refine ⟨c, a2, m, ?_, h1.1, rfl⟩
   cases c with
   | leaf _ _ _ => cases hc
   | gap _ _ _ => rfl
   | branch _ _ _ => rfl
 have hp0 := hp
 obtain ⟨g, rfl, _⟩ := hp0
 have has := fun w => as_branch_branch ⟨g, 0, none⟩ w
 have Hp := Lib.hid hp
 have He := Lib.hid he
 have Hv := Lib.hid hv
 have HI := Lib.hid hI
 have He2 := Lib.hid he2
 have Hes := Lib.hid hes
 have n9 : ((k : Int) == 9) = false := by simp; omega
 have Hk9 := Lib.hid hk9
 clear e1 hS hp he hv hI hsh hlow hsh0 hex he2 hes hk9 hk12
 generalize st e (.branch k a l) s = s1 at *
 generalize Sc.env2 x e (.branch k a l) = en at *
 generalize hE : esOf k l = es at *
 have Hes := Lib.hid Hes.out
 have He2 := Lib.hid He2.out
 clear hE
 unfold ptrV
 go_enter Tryz.func211, Tryz.ntmps211
 go_wp2_with fail
 refine hcl.mono ?_
 clear hcl
 rintro e' w1 ⟨rfl, hI1, hK1⟩
 have hp1 := Hp.out.same (V.same HI.out hI1)
 have hv1 := Hv.out.keepC hK1 V.types.2.1
 have he1 := EnvF.keepC hK1 V.types.1 He.out
 have hp10 := hp1
 obtain ⟨g', eg, hFg, Al, cl, vl, hgB, _⟩ := hp10
 injection eg with _ eg
 injection eg with eg
 injection eg with eg
 injection eg with eg
 subst eg
 have g0 := hgB.cell 0
 have v0 := hv1.cell 0
 simp at g0 v0
 have hex := exprs_walk hp1 hll
 clear Hp He Hv
 go_wp2_with fail
 refine hex.mono ?_
 clear hex g0 v0
 rintro e' w2 ⟨A, c, vs, rfl, hown, hps, hd2⟩
 have g0 := (hgB.below hd2 hgB.lt).cell 0
 simp at g0
 go_upto_if 63 with fail
 go_cut [10] (fun s10 wc => ∃ A c vs, s10 = .slice A es.length c ∧ wc.ownsRow w1.heap.size 122 1 (.slice A es.length c) es.length vs ∧ PtsF wc F es vs ∧ es.length ≤ 2000000000 ∧ Below w1.heap.size w1 wc)
 case first =>
  have hln := Nat.le_trans (Sc.exprs_take1_le l) hll
  by_cases hk : k = 11
  ·obtain ⟨c0, a2, m, hs, hm, he⟩ := Hes.out.2 hk
   have n11 : ((k : Int) == 11) = true := by simp; omega
   have har := args_walk (hp1.below hd2) hll hs hm
   have hlm := Nat.le_trans (Sc.exprs_take1_le m) hm
   have He := Lib.hid he
   have Hln := Lib.hid hln
   have Hlm := Lib.hid hlm
   clear hs he hk
   generalize Sc.exprsL l = L at *
   generalize Sc.exprsL m = M at *
   have Hd2 := Lib.hid hd2
   clear hln hlm hd2
   go_wp2_with fail
   refine har.mono ?_
   clear har
   rintro e' w3 ⟨A3, c3, vs3, rfl, hown3, hps3, hd3⟩
   have hownB := own_of_block hown fun kk hk => hd3.block kk (hown.lt kk hk).2
   have hd13 := Hd2.out.trans (hd3.mono Hd2.out.size)
   have hpsB := hps.below hd3
   rcases hown3.2 with ⟨hv3, hn3⟩ | ⟨g3, cap3, cur3, hv3, hb3, hg3, hcc3, hcm3, hcs3, hct3⟩
   ·injection hv3 with h1 h2 h3
    subst h1 h3
    have hM : M = [] := List.eq_nil_of_length_eq_zero hn3
    subst hM
    have : vs3 = [] := hps3
    subst this
    go_wp2_with (at_builtin; refine wpList_append_own_none rfl _ _ 119 rfl w1.heap.size 122 i0 1 Tryz.underlying119 ji _ L.length vs rfl hownB rfl ?_)
    go_meet
    have He1 : es = L := by have := He.out; rwa [List.append_nil] at this
    rw [He1]
    exact ⟨A, c, vs, rfl, hownB, hpsB, by have := Hln.out; omega, hd13⟩
   ·injection hv3 with h1 h2 h3
    subst h1 h3
    have hc3 : ∀ j u, vs3[j]? = some u → w3.cell? ((⟨g3, 0, none⟩ : Addr).add j) = some u := fun j u hu => by
     have h0 : 0 < M.length := by
      have h1 := hown3.1
      have h2 : j < vs3.length := by rcases Nat.lt_or_ge j vs3.length with h | h; exact h; rw [List.getElem?_eq_none h] at hu; cases hu
      omega
     obtain ⟨g4, e4, hc⟩ := own_at hown3 h0
     injection e4 with e4
     injection e4 with e4
     subst e4
     have := hc j u hu
     simp only [Addr.add]
     split
     ·rename_i h
      subst h
      exact this
     ·simpa using this
    go_wp2_with (at_builtin; refine wpList_append_own _ rfl _ _ 119 rfl w1.heap.size 122 i0 _ 1 16 Tryz.underlying119 ji jz0 jz1 jz2 rfl (by omega) _ L.length vs rfl hownB ⟨g3, 0, none⟩ M.length c3 vs3 rfl hown3.1 hc3 hps3.cells1 (by have := Hln.out; have := Hlm.out; unfold maxLen; omega) (by have := Hln.out; have := Hlm.out; omega) hd13.size ?_; intro v' w4 hown4 hgrow _)
    have hd4 : Below w1.heap.size w1 w4 := hd13.grown hgrow hd13.size fun gg hgg => (hownB.lt gg hgg).1
    have hbl := V.fok
    have hsame : ∀ b, F b → b < w4.heap.size ∧ w4.heap[b]? = w3.heap[b]? := fun b hb => by
     obtain ⟨q1, q2⟩ := V.same (V.below _ _ _ hI1 hd13) (V.below _ _ _ hI1 hd4) b hb
     exact ⟨q1, q2⟩
    have hpp := PtsF.app (PtsF.same hsame L vs hpsB) (PtsF.same hsame M vs3 hps3)
    obtain ⟨A', c', rfl, _⟩ := own_cap hown4
    go_meet
    have He1 := He.out
    rw [He1]
    refine ⟨A', c', vs ++ vs3, by simp, ?_, hpp, by simp; have := Hln.out; have := Hlm.out; omega, hd4⟩
    simpa using hown4
  ·have he := Hes.out.1 hk
   have n11 : ((k : Int) == 11) = false := by simp; omega
   have He := Lib.hid he
   clear he hk
   go_wp2_with fail
   go_meet
   rw [He.out]
   exact ⟨A, c, vs, rfl, hown, hps, by omega, hd2⟩
 case rest =>
  clear hown hps hd2 g0
  obtain ⟨A, c, vs, rfl, hown, hps, hlen, hd2⟩ := hcut
  have hI2 := V.below _ _ _ hI1 hd2
  have hK2 := hK1.trans (KeepC.below hd2)
  have hp2 := hp1.same (V.same hI1 hI2)
  have hv2 := hv1.below hd2 hv1.lt
  have he2 := he1.below hd2
  have hgB2 := hgB.below hd2 hgB.lt
  clear hp1 hv1 he1 hd2 hK1 hI1 HI hgB
  have Hlen := Lib.hid hlen
  clear hlen
  go_wp2_with fail
  go_loopg [70] es.length (fun m u wr => ∃ i : Nat, u = .int .i64 (i : Int) ∧ i ≤ es.length ∧ es.length - i ≤ m ∧ I (goS x st e en (es.take i) s1) wr ∧ KeepC T wc wr)
  case atStart => exact ⟨0, rfl, Nat.zero_le _, Nat.le_refl _, hI2, KeepC.refl _ _⟩
  case round =>
   obtain ⟨i, rfl, hi, hm, hIr, hKr⟩ := hrel
   by_cases hlt : i < es.length
   ·have ii0 : (0 : Int) ≤ (i : Int) := by omega
    have ii1 : (i : Int) < (es.length : Int) := by omega
    obtain ⟨v, hv', hpv⟩ := hps.at_ hlt
    obtain ⟨r0, rfl, hc⟩ := own_at hown (by omega)
    obtain ⟨ct, fr, hty⟩ := own_ty hown r0 rfl
    have q0 : wr.cell? ⟨r0, i, none⟩ = some v := (World.cell?_of_block (w := wc) (a := ⟨r0, i, none⟩) ((hKr r0 _ _ _ hty V.types.2.2).trans hty.symm)).trans (hc _ _ hv')
    obtain ⟨kd, gv, rfl⟩ := hpv.form
    have HT : Hid (goS x st e en (es.take (i + 1)) s1 = walkS x st (if i = 0 then e else en) es[i] (goS x st e en (es.take i) s1)) := by show _ = _; rw [go_take x st e en es i hlt]
    have hGi := goS_part V.back hG i hlt
    obtain ⟨k1, k2', k3, k4, k5⟩ := hkids _ (List.getElem_mem hlt)
    have hih := ih _ k5
    have hpr := hpv.same (V.same hI2 hIr)
    have hprr := hp2.same (V.same hI2 hIr)
    have hvr := hv2.keepC hKr V.types.2.1
    have her := EnvF.keepC hKr V.types.1 he2
    have c1 : IntKind.i64.wrap ((i : Int) + 1) = (i : Int) + 1 := IntWalk.i64_in _ (by have := Hlen.out; omega)
    have v1 := hvr.cell 1
    simp at v1
    generalize es[i] = p at *
    generalize goS x st e en (es.take i) s1 = sj at *
    have hgBr : ∃ cs, Blk wr g 178 cs ∧ cs[0]? = some (.int .i64 (k : Int)) := by
     have h0 := hprr
     obtain ⟨g', eg, _, _, _, _, hgB', _⟩ := h0
     injection eg with _ eg
     injection eg with eg
     injection eg with eg
     injection eg with eg
     subst eg
     exact ⟨_, hgB', rfl⟩
    obtain ⟨gcs, hgBr, hgk⟩ := hgBr
    have g0 := (hgBr.cell 0).trans hgk
    have hkey : ∀ (wX : World) (q : Option Addr), I sj wX → KeepC T wc wX → EnvF wX (fun _ => True) (if i = 0 then e else en) q →
      Calls Tryz.prog 211 #[.pointer (some ⟨ib, 0, none⟩), .pointer (some ⟨wX.heap.size, 0, none⟩), .func (.func Fn) #[] caps] (wX.alloc (.cells #[.iface kd (.pointer (some ⟨gv, 0, none⟩)), .pointer q, .pointer (some ⟨g, 0, none⟩)] 333)) fun e' w' => e' = .returned (.tuple #[]) ∧ I (walkS x st (if i = 0 then e else en) p sj) w' ∧ KeepC T wc w' := by
     intro wX q hIX hKX hEX
     have hd7 : Below wX.heap.size wX (wX.alloc (.cells #[.iface kd (.pointer (some ⟨gv, 0, none⟩)), .pointer q, .pointer (some ⟨g, 0, none⟩)] 333)) := (Below.refl _ _).alloc (Nat.le_refl _) _
     have hIX7 := V.below _ _ _ hIX hd7
     have := hih (if i = 0 then e else en) q (.pointer (some ⟨g, 0, none⟩)) _ wX.heap.size sj _ k1 k2' k3 k4 hIX7 (hpr.same (V.same hIr hIX7)) (EnvF.below hEX hd7) (Blk.new wX 333 #[.iface kd (.pointer (some ⟨gv, 0, none⟩)), .pointer q, .pointer (some ⟨g, 0, none⟩)]) hGi
     unfold ptrV at this
     refine this.mono ?_
     rintro e8 w8 ⟨rfl, hI8, hK8⟩
     exact ⟨rfl, hI8, (hKX.trans (KeepC.below hd7)).trans hK8⟩
    have Hkey := Lib.hid hkey
    have Hlt := Lib.hid hlt
    have Hm := Lib.hid hm
    have HIr := Lib.hid hIr
    have HKr := Lib.hid hKr
    have Her := Lib.hid her
    clear hv' hc hty hpv hlt hm hi hkey hih hpr hIr hKr k1 k2' k3 k4 k5 hGi her
    by_cases hk7 : k = 7
    ·obtain ⟨y0, y1, r, hs, hb1, hy1, hl2, hen⟩ := He2.out.2 hk7
     have n7 : ((k : Int) == 7) = true := by simp; omega
     by_cases hi1 : i = 1
     ·have hi7 : ((i : Int) == 1) = true := by simp; omega
      have Hif : Hid ((if i = 0 then e else en) = pushE (Sc.wordOf x.base y1) e) := by show _ = _; rw [if_neg (by omega), hen]
      have hlet := let_walk hprr hll hs
      clear hs hen hi1 hk7 hl2
      generalize (if i = 0 then e else en) = eX at *
      go_wp2_with fail
      refine hlet.mono ?_
      clear hlet
      rintro e3 w3 ⟨hd3, hm3⟩
      have hI3 := V.below _ _ _ HIr.out hd3
      have hK3 := HKr.out.trans (KeepC.below hd3)
      have hE3 := Her.out.below hd3
      have hgB3 := hgBr.below hd3 hgBr.lt
      have g0 := (hgB3.cell 0).trans hgk
      cases y1 with
      | branch k2 a2 l2 => cases hb1
      | gap t2 a2 d2 =>
       obtain rfl := hm3
       have hk := Hkey.out w3 ep hI3 hK3 (by rw [Hif.out]; exact hE3)
       go_wp2_with fail
       refine hk.mono ?_
       clear hk
       rintro e8 w8 ⟨rfl, hI8, hK8⟩
       go_wp2_with fail
       go_roundg (es.length - (i + 1))
       case rel => exact ⟨i + 1, by go_num, by have := Hlt.out; omega, Nat.le_refl _, by rw [HT.out]; exact hI8, hK8⟩
       case measure => have := Hlt.out; have := Hm.out; omega
      | leaf k2 t2 a2 =>
       obtain ⟨g1, rfl, hF1, hL1⟩ := hm3
       have Hif : Hid (eX = (t2, x.base + a2) :: e) := Hif
       unfold lowP at hy1
       have c2 : IntKind.i64.wrap ((x.base : Int) + (a2 : Int)) = ((x.base + a2 : Nat) : Int) := by rw [IntWalk.i64_in _ (by omega)]; omega
       have hat := Lib.hid hy1.1
       clear hy1
       generalize x.base + a2 = at_ at *
       go_upto_region 19 with fail
       refine wp_region_G 100 (LetS2 ib g1 t2 x.base a2) (by kernel_rfl) ?_
       have hd4 : Below w3.heap.size w3 w3.drew := (Below.refl _ _).drew
       have hI4 := V.below _ _ _ hI3 hd4
       have hE4 := hE3.below hd4
       have hK4 := hK3.drew
       have hL4 := hL1.drew
       have hgB4 := hgB3.drew
       clear hI3 hE3 hK3 hL1 hgB3 g0 hd4 hd3
       generalize w3.drew = w4 at *
       obtain ⟨ics, hib, hib1⟩ := V.base _ _ hI4
       have hS0 : LetS2 ib g1 t2 x.base a2 w4 := ⟨by have := hL4.cell 1; simpa using this, (hib.cell 1).trans hib1, by have := hL4.cell 2; simpa using this⟩
       refine wpAnyG_tk 0 hS0 ?_
       simp only [Act.put, List.setIfInBounds_toArray]
       refine wpAnyG_tk 1 hS0 ?_
       simp only [Act.put]
       refine wpAnyG_tk 2 hS0 ?_
       simp only [Act.put]
       refine wpAnyG_tk 3 hS0 ?_
       simp only [Act.put]
       refine wpAnyG_tk 4 hS0 ?_
       simp only [Act.put]
       refine wpAnyG_tk 5 hS0 ?_
       simp only [Act.put]
       refine wpAnyG_tk 6 hS0 ?_
       simp only [Act.put]
       refine wpAnyG_tk 7 hS0 ?_
       simp only [Act.put]
       refine wpAnyG_tk 8 hS0 ?_
       simp only [Act.put]
       refine wpAnyG_tk 9 hS0 ?_
       simp only [Act.put]
       refine wpAnyG_tk 10 hS0 ?_
       simp only [Act.put]
       refine wpAnyG_tk 11 hS0 ?_
       simp only [Act.put]
       refine wpAnyG_tk 12 hS0 ?_
       simp only [Act.put]
       refine wpAnyG_tk 13 hS0 ?_
       simp only [Act.put]
       have hd5 : Below w4.heap.size w4 (w4.alloc (.cells #[.string ⟨t2.toArray⟩, .int .i64 (at_ : Int), .pointer ep] 359)) := (Below.refl _ _).alloc (Nat.le_refl _) _
       have hn := Blk.new w4 359 #[.string ⟨t2.toArray⟩, .int .i64 (at_ : Int), .pointer ep]
       have hI5 := V.below _ _ _ hI4 hd5
       have hK5 := hK4.trans (KeepC.below hd5)
       have hE5 := hE4.below hd5
       have hgB5 := hgB4.below hd5 hgB4.lt
       have HS5 : Hid (LetS2 ib g1 t2 x.base a2 (w4.alloc (.cells #[.string ⟨t2.toArray⟩, .int .i64 (at_ : Int), .pointer ep] 359))) := by
        have hL5 := hL4.below hd5 hL4.lt
        exact ⟨by have := hL5.cell 1; simpa using this, ((hib.below hd5 hib.lt).cell 1).trans hib1, by have := hL5.cell 2; simpa using this⟩
       refine wpAnyG_tk 14 hS0 ?_
       simp only [Act.put]
       clear hS0 hI4 hK4 hE4 hgB4 hd5 hL4 hib hib1
       refine wpAnyG_on 15 fun C hC => ?_
       go_simp
       refine hC.out _ _ (fun _ => HS5.out) ?_
       clear hC C
       obtain ⟨ne, hne⟩ : ∃ ne, ne = w4.heap.size := ⟨_, rfl⟩
       rw [← hne] at hn ⊢
       clear hne
       generalize w4.alloc (.cells #[.string ⟨t2.toArray⟩, .int .i64 (at_ : Int), .pointer ep] 359) = w5 at *
       refine wpAnyG_on 16 fun C hC => ?_
       go_simp
       refine hC.out _ _ (fun _ => HS5.out) ?_
       clear hC C
       refine wpAnyG_done (by kernel_rfl) ?_ _
       have hk := Hkey.out w5 (some ⟨ne, 0, none⟩) hI5 hK5 (by rw [Hif.out]; exact ⟨ne, ep, rfl, trivial, hn, hE5⟩)
       have g0 := (hgB5.cell 0).trans hgk
       clear hn
       go_wp2_with fail
       refine hk.mono ?_
       clear hk
       rintro e8 w8 ⟨rfl, hI8, hK8⟩
       go_wp2_with fail
       go_roundg (es.length - (i + 1))
       case rel => exact ⟨i + 1, by go_num, by have := Hlt.out; omega, Nat.le_refl _, by rw [HT.out]; exact hI8, hK8⟩
       case measure => have := Hlt.out; have := Hm.out; omega
     ·have hi7 : ((i : Int) == 1) = false := by simp; omega
      have hi0 : i = 0 := by
       have := Hlt.out
       omega
      have hk := Hkey.out wr ep HIr.out HKr.out (by rw [if_pos hi0]; exact Her.out)
      have Hi0 := Lib.hid hi0
      clear hi0 hi1 hs hen hk7 hl2
      generalize (if i = 0 then e else en) = eX at *
      go_wp2_with fail
      refine hk.mono ?_
      clear hk
      rintro e8 w8 ⟨rfl, hI8, hK8⟩
      go_wp2_with fail
      go_roundg (es.length - (i + 1))
      case rel => exact ⟨i + 1, by go_num, by have := Hlt.out; omega, Nat.le_refl _, by rw [HT.out]; exact hI8, hK8⟩
      case measure => have := Hlt.out; have := Hm.out; omega
    ·have n7 : ((k : Int) == 7) = false := by simp; omega
     have hen := He2.out.1 hk7
     have hk := Hkey.out wr ep HIr.out HKr.out (by rw [hen, ite_self]; exact Her.out)
     clear hk7 hen
     generalize (if i = 0 then e else en) = eX at *
     go_wp2_with fail
     refine hk.mono ?_
     clear hk
     rintro e8 w8 ⟨rfl, hI8, hK8⟩
     go_wp2_with fail
     go_roundg (es.length - (i + 1))
     case rel => exact ⟨i + 1, by go_num, by have := Hlt.out; omega, Nat.le_refl _, by rw [HT.out]; exact hI8, hK8⟩
     case measure => have := Hlt.out; have := Hm.out; omega
   ·obtain rfl : i = es.length := by omega
    rw [List.take_length] at hIr
    go_wp2_with fail
    go_end0
    exact ⟨rfl, hIr, hK2.trans hKr⟩
theorem walk_any (V : VisE Fn caps w0 F T x ib Q G st I) : ∀ (n : Nat) (p : Tr.PT), SizeOf.sizeOf p ≤ n → WalkE Fn caps F T x ib Q G st I p
 | 0, p, h => by cases p <;> simp at h <;> omega
 | n + 1, .leaf k t a, _ => by
  intro e ep up pv vb s w _ hex
  cases hex
 | n + 1, .gap t a d, _ => walk_gap V t a d
 | n + 1, .branch k a l, h => by
  by_cases hk : k = 9
  ·subst hk
   exact walk_fun V a l fun p hp => walk_any V n p (by omega)
  ·exact walk_more V k a l hk fun p hp => walk_any V n p (by omega)
theorem sc_walk (V : VisE Fn caps w0 F T x ib Q G st I) (p : Tr.PT) : WalkE Fn caps F T x ib Q G st I p := walk_any V _ p (Nat.le_refl _)
end
end Go.Proofs.YtcjjfeephaddcaaGreatDoor
