/-
  JOINED of the texts EI RegC
-/
import Derived.Test.YtcjjfeephaddcaaGreatDoorJaq
set_option linter.all false
namespace Go.Proofs.YtcjjfeephaddcaaGreatDoor
open Go.RowKit
def Sc.wkOf (fs : List Fl) (KK : List (List Tr.Kd)) : Sc.Wk := ⟨fs.map (·.1), KK.zipIdx.map fun y => Sc.itemsM y.2 y.1⟩
structure KsOk (ks : List Tr.Kd) : Prop where
 len : ks.length ≤ 1000000
 kids : ∀ k ∈ ks, Sc.isItem k = true → Sc.ItX k.part ∧ lowP k.base k.part ∧ Tr.cntP k.part ≤ 1000000
theorem word_low {b : Nat} {p : Tr.PT} {y : Sc.Wd} (h : lowP b p) (e : Sc.wordOf b p = some y) : y.at_ ≤ 1000000000 ∧ y.text.length ≤ 1000000 := by
 cases p with
 | leaf k t a =>
  unfold Sc.wordOf at e
  injection e with e
  subst e
  unfold lowP at h
  exact h
 | gap t a d => cases e
 | branch k a l => cases e
theorem at_low {b : Nat} {l : List Tr.PT} (h : ∀ p ∈ l, lowP b p) (i : Nat) : lowP b (Sc.atP l i) := by
 unfold Sc.atP
 cases e : l[i]? with
 | none => unfold Sc.nonP; simp [lowP]
 | some p => exact h p (List.mem_of_getElem? e)
theorem item_low {n : Nat} {k : Tr.Kd} (h : lowP k.base k.part) : ∀ y : Sc.Wd, ((Sc.itemM n k).name = some y ∨ (Sc.itemM n k).mo = some y ∨ (Sc.itemM n k).me = some y ∨ (Sc.itemM n k).al = some y) → y.at_ ≤ 1000000000 ∧ y.text.length ≤ 1000000 := by
 have hk : ∀ p ∈ Sc.bodyOf k.part, lowP k.base p := by
  intro p hp
  have h1 : p ∈ Sc.senseL (Sc.kidsOf k.part) := by
   unfold Sc.bodyOf at hp
   split at hp
   ·exact List.mem_of_mem_drop hp
   ·exact hp
  have h2 := sense_mem h1
  cases hpt : k.part with
  | leaf a t b => rw [hpt] at h2; cases h2
  | gap a t b => rw [hpt] at h2; cases h2
  | branch a t b =>
   rw [hpt] at h h2
   unfold lowP at h
   exact lows_mem h.2 p h2
 have hw : ∀ (i : Nat) (y : Sc.Wd), Sc.wordOf k.base (Sc.atP (Sc.bodyOf k.part) i) = some y → y.at_ ≤ 1000000000 ∧ y.text.length ≤ 1000000 := fun i y e => word_low (at_low hk i) e
 intro y hy
 unfold Sc.itemM at hy
 dsimp only at hy
 rcases hy with hy | hy | hy | hy
 ·split at hy
  ·exact hw _ _ hy
  ·split at hy
   ·exact hw _ _ hy
   ·exact hw _ _ hy
 ·split at hy
  ·cases hy
  ·exact hw _ _ hy
 ·split at hy
  ·cases hy
  ·exact hw _ _ hy
 ·split at hy
  ·exact hw _ _ hy
  ·cases hy
theorem body_mem {p q : Tr.PT} (h : q ∈ Sc.bodyOf p) : q ∈ Sc.kidsOf p := by
 have h1 : q ∈ Sc.senseL (Sc.kidsOf p) := by
  unfold Sc.bodyOf at h
  split at h
  ·exact List.mem_of_mem_drop h
  ·exact h
 exact sense_mem h1
theorem body_low {k : Tr.Kd} (h : lowP k.base k.part) : ∀ p ∈ Sc.bodyOf k.part, lowP k.base p := fun p hp => by
 have h2 := body_mem hp
 cases hpt : k.part with
 | leaf a t b => rw [hpt] at h2; cases h2
 | gap a t b => rw [hpt] at h2; cases h2
 | branch a t b =>
  rw [hpt] at h h2
  unfold lowP at h
  exact lows_mem h.2 p h2
theorem body_cnt {p : Tr.PT} {n : Nat} (h : Tr.cntP p ≤ n) : ∀ q ∈ Sc.bodyOf p, Tr.cntP q ≤ n := fun q hq => by
 have h2 := body_mem hq
 cases p with
 | leaf a t b => cases h2
 | gap a t b => cases h2
 | branch a t b =>
  have h3 := Tr.cnt_mem (l := b) h2
  simp only [Tr.cntP] at h
  omega
theorem item_defok {n : Nat} {k : Tr.Kd} (hx : Sc.ItX k.part) (hl : lowP k.base k.part) (hc : Tr.cntP k.part ≤ 1000000) (h4 : Sc.kindOf k.part = 4) : DefOk (Sc.itemM n k) := by
 have hbl := body_low hl
 have hbc := body_cnt hc
 rcases hx.ways with ⟨h3, _⟩ | ⟨_, hD⟩
 ·rw [h3] at h4
  cases h4
 obtain ⟨part, b, fi, la⟩ := k
 dsimp only at *
 cases part with
 | leaf _ _ _ => cases h4
 | gap _ _ _ => cases h4
 | branch kd at_ l0 =>
 obtain rfl : kd = 4 := h4
 obtain ⟨x0, x1, r, hB, _, hr⟩ := hD.ex
 rcases hr with ⟨x3, e, x5, rfl, h1, hs, he⟩ | ⟨p, x3, e, x5, rfl, h1, h2, hs, he⟩
 ·have hp : Sc.isPar x3 = false := by unfold Sc.isPar; rw [h1]; rfl
  rw [item_def hB, hp]
  have hm : e ∈ Sc.bodyOf (.branch 4 at_ l0) := by rw [hB]; simp
  exact ⟨rfl, hs, he, hbl e hm, hbc e hm, Nat.zero_le _, fun y hy => by cases hy⟩
 ·have hp : Sc.isPar p = true := by unfold Sc.isPar; rw [h1, h2]; rfl
  rw [item_def hB, hp]
  have hm : e ∈ Sc.bodyOf (.branch 4 at_ l0) := by rw [hB]; simp
  have hm2 : p ∈ Sc.bodyOf (.branch 4 at_ l0) := by rw [hB]; simp
  have hpc := hbc p hm2
  have hpl := hbl p hm2
  refine ⟨rfl, hs, he, hbl e hm, hbc e hm, ?_, fun y hy => ?_⟩
  ·have h5 := Sc.words_len b p
   have h6 := Sc.kids_cnt p
   show (Sc.wordsOf b p).length ≤ _
   omega
  ·have hy : some y ∈ Sc.wordsOf b p := hy
   cases p with
   | leaf _ _ _ => cases h1
   | gap _ _ _ => cases h1
   | branch k2 a2 m =>
    unfold lowP at hpl
    unfold Sc.wordsOf at hy
    obtain ⟨z, hz, ez⟩ := List.mem_map.1 hy
    cases z with
    | none => cases ez
    | some z =>
     injection ez with ez
     subst ez
     exact low_names hpl.2 z hz
theorem items_of {f : Nat} {ks : List Tr.Kd} {x : Sc.It} {k : Nat} (h : (Sc.itemsM f ks)[k]? = some x) : ∃ kd ∈ ks, Sc.isItem kd = true ∧ x = Sc.itemM f kd := by
 have h1 := List.mem_of_getElem? h
 unfold Sc.itemsM at h1
 obtain ⟨kd, h2, h3⟩ := List.mem_map.1 h1
 obtain ⟨h4, h5⟩ := List.mem_filter.1 h2
 exact ⟨kd, h4, h5, h3.symm⟩
theorem wk_items {fs : List Fl} {KK : List (List Tr.Kd)} {f : Nat} {l : List Sc.It} (h : (Sc.wkOf fs KK).items[f]? = some l) : ∃ ks, KK[f]? = some ks ∧ l = Sc.itemsM f ks := by
 unfold Sc.wkOf at h
 dsimp only at h
 rw [List.getElem?_map, List.getElem?_zipIdx] at h
 cases e : KK[f]? with
 | none => rw [e] at h; cases h
 | some ks =>
  rw [e] at h
  simp at h
  exact ⟨ks, rfl, h.symm⟩
theorem take_flat {α : Type} : ∀ (l : List (List α)) (n : Nat), (l.take n).flatten.length ≤ l.flatten.length
 | [], n => by simp
 | x :: l, 0 => by simp
 | x :: l, n + 1 => by
  rw [List.take_succ_cons, List.flatten_cons, List.flatten_cons, List.length_append, List.length_append]
  exact Nat.add_le_add_left (take_flat l n) _
section
variable (W : Sc.Wk)
def Sc.usesTo (f k : Nat) : List Sc.Us := ((W.items.zipIdx.map fun y => Sc.fileUses W y.2 y.1).take f).flatten ++ (((Sc.itemsAt W f).zipIdx.map fun y => Sc.itemUses W f y.2 y.1).take k).flatten
theorem Sc.usesTo_step {f k : Nat} {x : Sc.It} (h : (Sc.itemsAt W f)[k]? = some x) : Sc.usesTo W f (k + 1) = Sc.usesTo W f k ++ Sc.itemUses W f k x := by
 have hk : k < ((Sc.itemsAt W f).zipIdx.map fun y => Sc.itemUses W f y.2 y.1).length := by rw [List.length_map, List.length_zipIdx]; exact (List.getElem?_eq_some_iff.1 h).1
 unfold Sc.usesTo
 rw [List.take_succ_eq_append_getElem hk, List.flatten_append, List.flatten_singleton, List.append_assoc]
 congr 2
 rw [List.getElem_map, List.getElem_zipIdx]
 have := (List.getElem?_eq_some_iff.1 h).2
 simp [this]
theorem Sc.usesTo_file {f : Nat} {l : List Sc.It} (h : W.items[f]? = some l) : Sc.usesTo W f l.length = Sc.usesTo W (f + 1) 0 := by
 have hl : Sc.itemsAt W f = l := by unfold Sc.itemsAt; rw [h]; rfl
 have hf : f < (W.items.zipIdx.map fun y => Sc.fileUses W y.2 y.1).length := by rw [List.length_map, List.length_zipIdx]; exact (List.getElem?_eq_some_iff.1 h).1
 unfold Sc.usesTo
 have h2 : ((l.zipIdx.map fun y => Sc.itemUses W f y.2 y.1).take l.length) = (l.zipIdx.map fun y => Sc.itemUses W f y.2 y.1) := List.take_of_length_le (by rw [List.length_map, List.length_zipIdx]; exact Nat.le_refl _)
 rw [hl, h2, List.take_zero, List.flatten_nil, List.append_nil]
 rw [List.take_succ_eq_append_getElem hf, List.flatten_append, List.flatten_singleton]
 congr 1
 rw [List.getElem_map, List.getElem_zipIdx]
 have := (List.getElem?_eq_some_iff.1 h).2
 simp only [Nat.zero_add, this]
 rfl
theorem Sc.usesTo_end : Sc.usesTo W W.items.length 0 = Sc.usesM W := by
 unfold Sc.usesTo Sc.usesM
 rw [List.take_of_length_le (by rw [List.length_map, List.length_zipIdx]; exact Nat.le_refl _), List.take_zero, List.flatten_nil, List.append_nil]
theorem Sc.usesTo_le {f : Nat} (hf : f < W.items.length) (k : Nat) : (Sc.usesTo W f k).length ≤ (Sc.usesM W).length := by
 have h1 : (Sc.usesTo W f k).length ≤ (Sc.usesTo W (f + 1) 0).length := by
  have h := Sc.usesTo_file W (f := f) (List.getElem?_eq_getElem hf)
  rw [← h]
  have hl : Sc.itemsAt W f = W.items[f] := by unfold Sc.itemsAt; rw [List.getElem?_eq_getElem hf]; rfl
  unfold Sc.usesTo
  rw [List.length_append, List.length_append, hl]
  have h2 : (((W.items[f]).zipIdx.map fun y => Sc.itemUses W f y.2 y.1).take W.items[f].length) = ((W.items[f]).zipIdx.map fun y => Sc.itemUses W f y.2 y.1) := List.take_of_length_le (by rw [List.length_map, List.length_zipIdx]; exact Nat.le_refl _)
  rw [h2]
  exact Nat.add_le_add_left (take_flat _ _) _
 refine Nat.le_trans h1 ?_
 have h3 : (Sc.usesTo W (f + 1) 0) = ((W.items.zipIdx.map fun y => Sc.fileUses W y.2 y.1).take (f + 1)).flatten := by
  unfold Sc.usesTo
  rw [List.take_zero, List.flatten_nil, List.append_nil]
 rw [h3]
 exact take_flat _ _
end
section
variable {P : Program} {ops : Array Oper} {Q : Exit → Act → World → Prop} {md : Region.Mode} {C : Nat → World → Prop}
def wpAnyC (P : Program) (md : Region.Mode) (ops : Array Oper) (Q : Exit → Act → World → Prop) (C : Nat → World → Prop) : Nat → Array Bool → Act → World → Prop
 | 0, listed, a, w => Region.ready md ops listed = [] ∧ Q .normal a w
 | fuel + 1, listed, a, w =>
  (Region.ready md ops listed = [] → Q .normal a w) ∧
  ∀ i ∈ Region.ready md ops listed, wpOp P ops Q i (fun a' w' => C i w' ∧ wpAnyC P md ops Q C fuel (listed.setIfInBounds i true) a' w') a w
theorem wpAny_of_C : ∀ (fuel : Nat) (listed : Array Bool) (a : Act) (w : World), wpAnyC P md ops Q C fuel listed a w → wpAny P md ops Q fuel listed a w
 | 0, _, _, _, h => h
 | fuel + 1, _, _, _, h => ⟨h.1, fun i hi => wpOp_mono (fun a' w' h' => wpAny_of_C fuel _ a' w' h'.2) (h.2 i hi)⟩
def waitsC (md : Region.Mode) (ops : Array Oper) (L i : Nat) : Bool :=
 match ops[L]? with
 | some o => o.after.toList.any fun e => Region.binds md e && e.on == i
 | none => true
theorem wpAnyC_first {S : World → Prop} (L : List Nat) {i : Nat} {oi : Oper} {v : Value} (hi : ops[i]? = some oi) (hsel : ∀ (j : Nat) (o : Oper) cs b, ops[j]? = some o → o.op ≠ .select cs b)
  (hQ : ∀ c a w, Q (.panic c) (a.put oi.dst v) w → Q (.panic c) a w) (hL : L.all (fun l => waitsC md ops l i) = true) (hCi : ∀ w', S w' → C i w') :
  ∀ (fuel : Nat) (listed : Array Bool) (a : Act) (w : World),
   (∀ j oj, ops[j]? = some oj → j ≠ i → listed.getD j true = false → (∀ e ∈ oj.after, Region.binds md e = true → e.on ≠ i) → oi.apart ops oj = true) →
   (∀ j w', listed.getD j true = false → j ≠ i → j ∉ L → C j w' → S w') → i ∈ Region.ready md ops listed → YieldsIf P ops S oi v a → S w →
   wpAnyC P md ops Q C fuel (listed.setIfInBounds i true) (a.put oi.dst v) w → wpAnyC P md ops Q C (fuel + 1) listed a w := by
 intro fuel
 induction fuel with
 | zero =>
  intro listed a w _ _ hr hy hS H
  refine ⟨fun h => (by rw [h] at hr; cases hr), fun j hj => ?_⟩
  by_cases hji : j = i
  ·subst hji; exact hy.wpOp hi hS ⟨hCi _ hS, H⟩
  ·have := ready_mono hj hji
   rw [H.1] at this
   cases this
 | succ fuel ih =>
  intro listed a w hfree hC hr hy hS H
  refine ⟨fun h => (by rw [h] at hr; cases hr), fun j hj => ?_⟩
  by_cases hji : j = i
  ·subst hji; exact hy.wpOp hi hS ⟨hCi _ hS, H⟩
  ·have h1 := H.2 j (ready_mono hj hji)
   obtain ⟨hjun, oj, hoj, hall⟩ := mem_ready.1 hj
   have hnot : ∀ e ∈ oj.after, Region.binds md e = true → e.on ≠ i := fun e he hb heq => by
    have h1 := hall e he hb
    have h0 := (mem_ready.1 hr).1
    rw [heq] at h1
    rcases Nat.lt_or_ge i listed.size with h' | h'
    ·simp [h'] at h0 h1; rw [h0] at h1; cases h1
    ·simp [Array.getElem?_eq_none h'] at h1
   have hjL : j ∉ L := fun hjm => by
    have hL := List.all_eq_true.1 hL j hjm
    unfold waitsC at hL
    rw [hoj] at hL
    simp only [List.any_eq_true, Bool.and_eq_true, beq_iff_eq] at hL
    obtain ⟨e, he, hb, hon⟩ := hL
    exact hnot e (Array.mem_toList_iff.1 he) hb hon
   have h2 := wpOp_putIf hoj (hfree j oj hoj hji hjun hnot) (fun cs b => hsel i oi cs b hi) (fun cs b => hsel j oj cs b hoj) hQ hy h1
   have hfree' : ∀ k ok, ops[k]? = some ok → k ≠ i → (listed.setIfInBounds j true).getD k true = false →
     (∀ e ∈ ok.after, Region.binds md e = true → e.on ≠ i) → oi.apart ops ok = true := fun k ok hk hki hun hno => by
    refine hfree k ok hk hki ?_ hno
    by_cases hjk : j = k
    ·subst hjk; exact hjun
    ·rw [getD_set_ne true hjk] at hun; exact hun
   have hC' : ∀ k w', (listed.setIfInBounds j true).getD k true = false → k ≠ i → k ∉ L → C k w' → S w' := fun k w' hun hki hkL hCk => by
    refine hC k w' ?_ hki hkL hCk
    by_cases hjk : j = k
    ·subst hjk; exact hjun
    ·rw [getD_set_ne true hjk] at hun; exact hun
   refine wpOp_mono (fun a' w' h3 => ⟨h3.2.1, ih (listed.setIfInBounds j true) a' w' hfree' hC' (ready_mono hr (Ne.symm hji)) h3.1 (hC j w' hjun hji hjL h3.2.1) ?_⟩) h2
   rw [Array.setIfInBounds_comm _ _ hji]
   exact h3.2.2
theorem wpAnyC_take (S : World → Prop) (L : List Nat) {i : Nat} {oi : Oper} {v : Value} {fuel : Nat} {listed : Array Bool} {a : Act} {w : World} (hi : ops[i]? = some oi)
  (hs : Region.noSelect ops = true) (hf : Region.free md ops listed i = true) (hr : (Region.ready md ops listed).contains i = true) (hL : L.all (fun l => waitsC md ops l i) = true)
  (hQ : ∀ c a w, Q (.panic c) (a.put oi.dst v) w → Q (.panic c) a w) (hC : ∀ j w', listed.getD j true = false → j ≠ i → j ∉ L → C j w' → S w') (hCi : ∀ w', S w' → C i w') (hy : YieldsIf P ops S oi v a) (hS : S w)
  (h : wpAnyC P md ops Q C fuel (listed.setIfInBounds i true) (a.put oi.dst v) w) : wpAnyC P md ops Q C (fuel + 1) listed a w :=
 wpAnyC_first L hi (Region.noSelect_spec hs) hQ hL hCi fuel listed a w (Region.free_spec hi hf) hC (by simpa using hr) hy hS h
theorem wpAnyC_one {i : Nat} {o : Oper} {fuel : Nat} {listed : Array Bool} {a : Act} {w : World} (hr : Region.ready md ops listed = [i]) (ho : ops[i]? = some o)
  (h : ∀ K' : Act → World → Prop, Shut (∀ a w, C i w → wpAnyC P md ops Q C fuel (listed.setIfInBounds i true) a w → K' a w) → if Region.wanted o (yielded ops a.tmps) = true then Oper.wp P o a w K' Q else K' (a.put o.dst undef) w) :
  wpAnyC P md ops Q C (fuel + 1) listed a w :=
 ⟨fun h0 => (by rw [h0] at hr; cases hr), fun j hj => by
  rw [hr, List.mem_singleton] at hj
  subst hj
  exact wpOp_step ho fun K' hK => h K' fun a w hS hW => hK a w ⟨hS, hW⟩⟩
theorem wpAnyC_two {i j : Nat} {o o' : Oper} {fuel : Nat} {listed : Array Bool} {a : Act} {w : World} (hr : Region.ready md ops listed = [i, j]) (ho : ops[i]? = some o) (ho' : ops[j]? = some o')
  (h : ∀ K' : Act → World → Prop, Shut (∀ a w, C i w → wpAnyC P md ops Q C fuel (listed.setIfInBounds i true) a w → K' a w) → if Region.wanted o (yielded ops a.tmps) = true then Oper.wp P o a w K' Q else K' (a.put o.dst undef) w)
  (h' : ∀ K' : Act → World → Prop, Shut (∀ a w, C j w → wpAnyC P md ops Q C fuel (listed.setIfInBounds j true) a w → K' a w) → if Region.wanted o' (yielded ops a.tmps) = true then Oper.wp P o' a w K' Q else K' (a.put o'.dst undef) w) :
  wpAnyC P md ops Q C (fuel + 1) listed a w :=
 ⟨fun h0 => (by rw [h0] at hr; cases hr), fun m hm => by
  rw [hr] at hm
  simp only [List.mem_cons, List.mem_nil_iff, or_false] at hm
  rcases hm with rfl | rfl
  ·exact wpOp_step ho fun K' hK => h K' fun a w hS hW => hK a w ⟨hS, hW⟩
  ·exact wpOp_step ho' fun K' hK => h' K' fun a w hS hW => hK a w ⟨hS, hW⟩⟩
theorem wpAnyC_done {listed : Array Bool} {a : Act} {w : World} (hr : Region.ready md ops listed = []) (h : Q .normal a w) : ∀ fuel, wpAnyC P md ops Q C fuel listed a w
 | 0 => ⟨hr, h⟩
 | _ + 1 => ⟨fun _ => h, by rw [hr]; simp⟩
theorem wp_region_C {id : Nat} {a : Act} {w : World} (C : Nat → World → Prop) (hm : P.follows .mixedOrders = true)
  (h : wpAnyC P .any ops Q C ops.size (Array.replicate ops.size false) a w.drew) : (Code.region id ops true).wp P Q a w :=
 wp_region_any hm (wpAny_of_C _ _ _ _ h)
end
end Go.Proofs.YtcjjfeephaddcaaGreatDoor
