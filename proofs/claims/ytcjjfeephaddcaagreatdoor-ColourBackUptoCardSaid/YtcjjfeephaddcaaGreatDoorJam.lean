/-
  JOINED of the texts SD SO SP SS SQ
-/
import Derived.Test.YtcjjfeephaddcaaGreatDoorJal
set_option linter.all false
namespace Go.Proofs.YtcjjfeephaddcaaGreatDoor.Sc
open Tr (PT)
def Its (U : List Us) (f a : Nat) : Prop := ∃ v ∈ U, v.file = f ∧ v.at_ = a ∧ v.toFile = f ∧ v.to_ = a ∧ v.as_ ≤ 2
def Std (U : List Us) (u : Us) : Prop := u.to_ = -1 ∨ ∃ f a : Nat, u.toFile = f ∧ u.to_ = a ∧ Its U f a
theorem its_self {U : List Us} {f a k : Nat} {t : Bool} (hk : k ≤ 2) (h : itselfM f a k t ∈ U) : Its U f a := ⟨_, h, rfl, rfl, rfl, rfl, hk⟩
theorem std_self {U : List Us} {f a k : Nat} {t : Bool} (hk : k ≤ 2) (h : itselfM f a k t ∈ U) : Std U (itselfM f a k t) := .inr ⟨f, a, rfl, rfl, its_self hk h⟩
theorem std_nothing (U : List Us) (f a k e : Nat) : Std U (nothingM f a k e) := .inl rfl
theorem named_name {n : List UInt8} {y : It} (h : named n y = true) : ∃ w, y.name = some w ∧ w.text = n := by
 unfold named at h
 cases hn : y.name with
 | none => rw [hn] at h; cases h
 | some w => rw [hn] at h; exact ⟨w, rfl, by simpa using h⟩
theorem found_at {l : List It} {n : List UInt8} {k : Nat} (h : foundM l n = some k) : ∃ y, l[k]? = some y ∧ named n y = true := by
 unfold foundM at h
 rw [List.findIdx?_eq_some_iff_getElem] at h
 obtain ⟨hk, h1, _⟩ := h
 exact ⟨l[k], List.getElem?_eq_getElem hk, h1⟩
section
variable (W : Wk) (U : List Us)
def DefsIn : Prop := ∀ (f k : Nat) (y : It) (w : Wd), (itemsAt W f)[k]? = some y → y.isDef = true → y.name = some w → Its U f w.at_
variable {W U} (hW : DefsIn W U)
include hW
theorem step_std {x : It} {f a : Int} {e : Nat} (h : stepM W x = .is f a e) : a = -1 ∨ ∃ f' a' : Nat, f = f' ∧ a = a' ∧ Its U f' a' := by
 unfold stepM at h
 split at h
 ·rename_i g m _ _
  unfold stepF at h
  split at h
  ·injection h with _ h2 _; exact .inl h2.symm
  ·rename_i k hf
   obtain ⟨y, hy, hn⟩ := found_at hf
   rw [hy] at h
   dsimp only at h
   split at h
   ·injection h with _ h2 _; exact .inl h2.symm
   ·split at h
    ·rename_i hd
     obtain ⟨w, hw, _⟩ := named_name hn
     rw [hw] at h
     injection h with h1 h2 _
     exact .inr ⟨g, w.at_, h1.symm, h2.symm, hW g k y w hy hd hw⟩
    ·cases h
 ·injection h with _ h2 _; exact .inl h2.symm
theorem target_std : ∀ (n : Nat) (met : List (Nat × Nat)) (p : Nat × Nat) (x : It), (targetM W n met p x).2.1 = -1 ∨ ∃ f' a' : Nat, (targetM W n met p x).1 = f' ∧ (targetM W n met p x).2.1 = a' ∧ Its U f' a'
 | 0, _, _, _ => .inl rfl
 | n + 1, met, p, x => by
  unfold targetM
  cases hs : stepM W x with
  | is f a e => exact step_std hW hs
  | at_ f k =>
   dsimp only
   split
   ·exact .inl rfl
   ·split
    ·exact target_std n _ _ _
    ·exact .inl rfl
theorem stands_std (f k : Nat) (x : It) : (standsM W f k x).2.1 = -1 ∨ ∃ f' a' : Nat, (standsM W f k x).1 = f' ∧ (standsM W f k x).2.1 = a' ∧ Its U f' a' := target_std hW _ _ _ _
def EnvIn (U : List Us) (f : Nat) (e : Env) : Prop := ∀ y ∈ e, Its U f y.2
theorem var_std {x : It} {e : Env} {t : List UInt8} {a : Nat} (he : EnvIn U x.file e) : Std U (varM W x e t a) := by
 unfold varM
 split
 ·rename_i to_ hf
  unfold findM at hf
  cases hy : e.find? (fun x => x.1 == t) with
  | none => rw [hy] at hf; cases hf
  | some y =>
   rw [hy] at hf
   injection hf with hf
   subst hf
   exact .inr ⟨_, _, rfl, rfl, he y (List.mem_of_find?_eq_some hy)⟩
 unfold varF
 split
 ·exact std_nothing _ _ _ _ _
 ·rename_i k hf
  obtain ⟨y, hy, hn⟩ := found_at hf
  rw [hy]
  dsimp only
  split
  ·rename_i hd
   obtain ⟨w, hw, _⟩ := named_name hn
   rw [hw]
   exact .inr ⟨_, _, rfl, rfl, hW x.file k y w hy hd hw⟩
  ·exact stands_std hW _ _ _
omit hW in
theorem params_in (f : Nat) : ∀ (l ahead : List (Option Wd)), (∀ u ∈ paramsM f ahead l, u ∈ U) → (∀ u ∈ paramsM f ahead l, Std U u) ∧ ∀ w, some w ∈ l → Its U f w.at_
 | [], _, _ => ⟨fun u hu => absurd hu (by simp [paramsM]), fun w hw => absurd hw (by simp)⟩
 | none :: l, ahead, h => by
  unfold paramsM at h ⊢
  obtain ⟨h1, h2⟩ := params_in f l _ h
  exact ⟨h1, fun w hw => h2 w (by simpa using hw)⟩
 | some v :: l, ahead, h => by
  unfold paramsM at h ⊢
  have hv := h _ List.mem_cons_self
  obtain ⟨h1, h2⟩ := params_in f l _ fun u hu => h u (List.mem_cons_of_mem _ hu)
  refine ⟨fun u hu => ?_, fun w hw => ?_⟩
  ·rcases List.mem_cons.1 hu with rfl | hu
   ·exact std_self (by omega) hv
   ·exact h1 u hu
  ·rcases List.mem_cons.1 hw with hw | hw
   ·injection hw with hw; subst hw; exact its_self (by omega) hv
   ·exact h2 w hw
omit hW in
theorem inner_in {f : Nat} {e : Env} (he : EnvIn U f e) : ∀ {l : List (Option Wd)}, (∀ w, some w ∈ l → Its U f w.at_) → EnvIn U f (innerM l e)
 | [], _ => he
 | none :: l, h => inner_in (l := l) he fun w hw => h w (List.mem_cons_of_mem _ hw)
 | some v :: l, h => fun y hy => by
  unfold innerM at hy
  rw [List.foldr_cons] at hy
  rcases List.mem_cons.1 hy with rfl | hy
  ·exact h v (by simp)
  ·exact inner_in (l := l) he (fun w hw => h w (List.mem_cons_of_mem _ hw)) y hy
theorem visit_std {x : It} {e : Env} {p : PT} (he : EnvIn U x.file e) (h : ∀ u ∈ visitM W x e p, u ∈ U) : (∀ u ∈ visitM W x e p, Std U u) ∧ EnvIn U x.file (env1 x e p) ∧ EnvIn U x.file (env2 x e p) := by
 unfold visitM at h ⊢
 unfold env1 env2
 by_cases h7 : kindOf p = 7
 ·have h9 : ¬ kindOf p = 9 := by omega
  rw [if_pos h7] at h ⊢
  rw [if_neg h9, if_neg h9, if_pos h7]
  cases hl : letM x.base p with
  | none => rw [hl] at h; exact ⟨fun u hu => absurd hu (by simp), he, he⟩
  | some w =>
   rw [hl] at h
   have hw := h (itselfM x.file w.at_ 2 false) (by simp)
   refine ⟨fun u hu => ?_, he, fun y hy => ?_⟩
   ·simp only [Option.toList_some, List.map_cons, List.map_nil, List.mem_singleton] at hu
    subst hu
    exact std_self (by omega) hw
   ·rcases List.mem_cons.1 hy with rfl | hy
    ·exact its_self (by omega) hw
    ·exact he y hy
 simp only [if_neg h7] at h ⊢
 by_cases h9 : kindOf p = 9
 ·simp only [if_pos h9] at h ⊢
  obtain ⟨h1, h2⟩ := params_in x.file _ [] h
  exact ⟨h1, inner_in he h2, inner_in he h2⟩
 simp only [if_neg h9] at h ⊢
 refine ⟨fun u hu => ?_, he, he⟩
 split at hu
 ·rw [List.mem_singleton] at hu
  subst hu
  exact var_std hW he
 ·exact absurd hu (by simp)
end
section
variable {W : Wk} {U : List Us}
mutual
theorem walk_std (hW : DefsIn W U) (x : It) : ∀ (p : PT) (e : Env), EnvIn U x.file e → (∀ u ∈ walkM W x e p, u ∈ U) → ∀ u ∈ walkM W x e p, Std U u
 | .leaf _ _ _, e, _, _ => by unfold walkM; exact fun u hu => absurd hu (by simp)
 | .gap _ _ _, e, _, _ => by unfold walkM; exact fun u hu => absurd hu (by simp)
 | .branch k a l, e, he, h => by
  unfold walkM at h ⊢
  obtain ⟨h1, h2, h3⟩ := visit_std hW he fun u hu => h u (List.mem_append_left _ hu)
  intro u hu
  rcases List.mem_append.1 hu with hu | hu
  ·exact h1 u hu
  ·exact walks_std hW x l _ _ h2 h3 (fun u hu => h u (List.mem_append_right _ hu)) u hu
theorem walks_std (hW : DefsIn W U) (x : It) : ∀ (l : List PT) (e1 e2 : Env), EnvIn U x.file e1 → EnvIn U x.file e2 → (∀ u ∈ walksM W x e1 e2 l, u ∈ U) → ∀ u ∈ walksM W x e1 e2 l, Std U u
 | [], _, _, _, _, _ => by unfold walksM; exact fun u hu => absurd hu (by simp)
 | p :: l, e1, e2, h1, h2, h => by
  unfold walksM at h ⊢
  split
  ·rename_i hp
   rw [if_pos hp] at h
   intro u hu
   rcases List.mem_append.1 hu with hu | hu
   ·exact walk_std hW x p e1 h1 (fun u hu => h u (List.mem_append_left _ hu)) u hu
   ·exact walks_std hW x l e2 e2 h2 h2 (fun u hu => h u (List.mem_append_right _ hu)) u hu
  ·rename_i hp
   rw [if_neg hp] at h
   exact walks_std hW x l e1 e2 h1 h2 h
end
theorem item_std (hW : DefsIn W U) {f k : Nat} {x : It} (h : ∀ u ∈ itemUses W f k x, u ∈ U) : ∀ u ∈ itemUses W f k x, Std U u := by
 unfold itemUses at h ⊢
 split
 ·rename_i hd
  rw [if_pos hd] at h
  unfold defM at h ⊢
  have h1 := params_in x.file x.params [] fun u hu => h u (List.mem_append_left _ (List.mem_append_right _ hu))
  have h2 := walk_std hW x x.expr (innerM x.params []) (inner_in (fun y hy => absurd hy (by simp)) h1.2) fun u hu => h u (List.mem_append_right _ hu)
  intro u hu
  rcases List.mem_append.1 hu with hu | hu
  ·rcases List.mem_append.1 hu with hu' | hu'
   ·obtain ⟨w, hw, rfl⟩ := List.mem_map.1 hu'
    exact std_self (by omega) (h _ (List.mem_append_left _ hu))
   ·exact h1.1 u hu'
  ·exact h2 u hu
 ·unfold useM
  intro u hu
  rcases List.mem_append.1 hu with hu | hu
  ·rcases List.mem_append.1 hu with hu | hu
   ·obtain ⟨w, hw, rfl⟩ := List.mem_map.1 hu
    unfold modM
    split
    ·exact .inl rfl
    ·exact .inl rfl
   ·obtain ⟨w, hw, rfl⟩ := List.mem_map.1 hu
    exact stands_std hW f k x
  ·obtain ⟨w, hw, rfl⟩ := List.mem_map.1 hu
   exact stands_std hW f k x
end
theorem walk_file_visit (W : Wk) (x : It) (e : Env) (p : PT) : ∀ u ∈ visitM W x e p, u.file = x.file := by
 intro u hu
 unfold visitM at hu
 split at hu
 ·obtain ⟨w, _, rfl⟩ := List.mem_map.1 hu; rfl
 split at hu
 ·exact params_file x.file _ [] u hu
 split at hu
 ·rw [List.mem_singleton] at hu
  subst hu
  unfold varM varF nothingM
  repeat' split
  all_goals rfl
 ·exact absurd hu (by simp)
where params_file (f : Nat) : ∀ (l ahead : List (Option Wd)), ∀ u ∈ paramsM f ahead l, u.file = f
 | [], _, u, hu => absurd hu (by simp [paramsM])
 | none :: l, ahead, u, hu => by unfold paramsM at hu; exact params_file f l _ u hu
 | some w :: l, ahead, u, hu => by
  unfold paramsM at hu
  rcases List.mem_cons.1 hu with rfl | hu
  ·rfl
  ·exact params_file f l _ u hu
mutual
theorem walk_file (W : Wk) (x : It) : ∀ (p : PT) (e : Env), ∀ u ∈ walkM W x e p, u.file = x.file
 | .leaf _ _ _, e, u, hu => by unfold walkM at hu; exact absurd hu (by simp)
 | .gap _ _ _, e, u, hu => by unfold walkM at hu; exact absurd hu (by simp)
 | .branch k a l, e, u, hu => by
  unfold walkM at hu
  rcases List.mem_append.1 hu with hu | hu
  ·exact walk_file_visit W x e _ u hu
  ·exact walks_file W x l _ _ u hu
theorem walks_file (W : Wk) (x : It) : ∀ (l : List PT) (e1 e2 : Env), ∀ u ∈ walksM W x e1 e2 l, u.file = x.file
 | [], _, _, u, hu => by unfold walksM at hu; exact absurd hu (by simp)
 | p :: l, e1, e2, u, hu => by
  unfold walksM at hu
  split at hu
  ·rcases List.mem_append.1 hu with hu | hu
   ·exact walk_file W x p e1 u hu
   ·exact walks_file W x l e2 e2 u hu
  ·exact walks_file W x l e1 e2 u hu
end
theorem item_file (W : Wk) (f k : Nat) (x : It) : ∀ u ∈ itemUses W f k x, u.file = x.file := by
 intro u hu
 unfold itemUses at hu
 split at hu
 ·unfold defM at hu
  rcases List.mem_append.1 hu with hu | hu
  ·rcases List.mem_append.1 hu with hu | hu
   ·obtain ⟨w, _, rfl⟩ := List.mem_map.1 hu; rfl
   ·exact walk_file_visit.params_file x.file _ _ u hu
  ·exact walk_file W x _ _ u hu
 ·unfold useM at hu
  rcases List.mem_append.1 hu with hu | hu
  ·rcases List.mem_append.1 hu with hu | hu
   ·obtain ⟨w, _, rfl⟩ := List.mem_map.1 hu
    unfold modM
    split <;> rfl
   ·obtain ⟨w, _, rfl⟩ := List.mem_map.1 hu; rfl
  ·obtain ⟨w, _, rfl⟩ := List.mem_map.1 hu; rfl
def KidsOk (ks : List Tr.Kd) : Prop := Up ((ks.filter isItem).map fun k => leavesP k.base k.part).flatten ∧ ∀ k ∈ ks, isItem k = true → ItX k.part
theorem items_at (l : List (List UInt8 × List Tr.Kd)) (f : Nat) (y : It) (k : Nat) (h : (itemsAt (workM l) f)[k]? = some y) : y.file = f := by
 unfold itemsAt workM at h
 dsimp only at h
 rw [List.getElem?_map, List.getElem?_zipIdx] at h
 cases hl : l[f]? with
 | none => rw [hl] at h; simp at h
 | some z =>
  rw [hl] at h
  simp only [Option.map_some, Option.getD_some, Nat.zero_add] at h
  have := List.mem_of_getElem? h
  unfold itemsM at this
  obtain ⟨q, _, rfl⟩ := List.mem_map.1 this
  rfl
theorem mem_uses {W : Wk} {f k : Nat} {x : It} {u : Us} (h : (itemsAt W f)[k]? = some x) (hu : u ∈ itemUses W f k x) : u ∈ usesM W := by
 unfold usesM fileUses
 rw [List.mem_flatten]
 unfold itemsAt at h
 cases hl : W.items[f]? with
 | none => rw [hl] at h; simp at h
 | some l =>
  rw [hl] at h
  simp only [Option.getD_some] at h
  refine ⟨_, List.mem_map.2 ⟨(l, f), ?_, rfl⟩, ?_⟩
  ·rw [List.mem_zipIdx_iff_getElem?]; exact hl
  ·rw [List.mem_flatten]
   refine ⟨_, List.mem_map.2 ⟨(x, k), ?_, rfl⟩, hu⟩
   rw [List.mem_zipIdx_iff_getElem?]; exact h
theorem uses_mem {W : Wk} {u : Us} (hu : u ∈ usesM W) : ∃ f k x, (itemsAt W f)[k]? = some x ∧ u ∈ itemUses W f k x := by
 unfold usesM fileUses at hu
 obtain ⟨q, hq, hu⟩ := List.mem_flatten.1 hu
 obtain ⟨⟨l, f⟩, hl, rfl⟩ := List.mem_map.1 hq
 obtain ⟨q, hq, hu⟩ := List.mem_flatten.1 hu
 obtain ⟨⟨x, k⟩, hx, rfl⟩ := List.mem_map.1 hq
 rw [List.mem_zipIdx_iff_getElem?] at hl hx
 refine ⟨f, k, x, ?_, hu⟩
 unfold itemsAt
 rw [hl]
 exact hx
theorem uses_std (l : List (List UInt8 × List Tr.Kd)) : ∀ u ∈ usesM (workM l), Std (usesM (workM l)) u := by
 have hW : DefsIn (workM l) (usesM (workM l)) := fun f k y w hy hd hw => by
  have hf := items_at l f y k hy
  refine its_self (k := 0) (t := twiceM (itemsAt (workM l) f) k) (by omega) (mem_uses hy ?_)
  unfold itemUses defM
  rw [if_pos hd, hw, hf]
  simp
 intro u hu
 obtain ⟨f, k, x, hx, hu⟩ := uses_mem hu
 exact item_std hW (fun v hv => mem_uses hx hv) u hu
def Ahead (u v : Us) : Prop := u.file < v.file ∨ (u.file = v.file ∧ u.at_ < v.at_)
theorem file_places (W : Wk) (g : Nat) : ∀ (ks : List Tr.Kd) (n : Nat), (∀ k ∈ ks, isItem k = true → ItX k.part) →
  (places (((itemsM g ks).zipIdx n).map fun y => itemUses W g y.2 y.1).flatten).Sublist (((ks.filter isItem).map fun k => leavesP k.base k.part).flatten)
 | [], _, _ => List.Sublist.slnil
 | k :: ks, n, h => by
  unfold itemsM
  rw [List.filter_cons]
  split
  ·rename_i hi
   rw [List.map_cons, List.zipIdx_cons, List.map_cons, List.flatten_cons, places_app, List.map_cons, List.flatten_cons]
   exact (item_sub W g n k (h k (by simp) hi) g).append (file_places W g ks (n + 1) fun q hq => h q (List.mem_cons_of_mem _ hq))
  ·exact file_places W g ks n fun q hq => h q (List.mem_cons_of_mem _ hq)
theorem file_file (W : Wk) (g : Nat) (ks : List Tr.Kd) : ∀ u ∈ fileUses W g (itemsM g ks), u.file = g := by
 intro u hu
 unfold fileUses at hu
 obtain ⟨q, hq, hu⟩ := List.mem_flatten.1 hu
 obtain ⟨⟨x, k⟩, hx, rfl⟩ := List.mem_map.1 hq
 rw [List.mem_zipIdx_iff_getElem?] at hx
 have hx := List.mem_of_getElem? hx
 unfold itemsM at hx
 obtain ⟨z, _, rfl⟩ := List.mem_map.1 hx
 rw [item_file W g k _ u hu]
 rfl
theorem files_ahead (W : Wk) : ∀ (l : List (List UInt8 × List Tr.Kd)) (n : Nat), (∀ y ∈ l, KidsOk y.2) →
  (((l.zipIdx n).map fun y => fileUses W y.2 (itemsM y.2 y.1.2)).flatten).Pairwise Ahead ∧ ∀ u ∈ ((l.zipIdx n).map fun y => fileUses W y.2 (itemsM y.2 y.1.2)).flatten, n ≤ u.file
 | [], _, _ => ⟨List.Pairwise.nil, fun u hu => absurd hu (by simp)⟩
 | y :: l, n, h => by
  obtain ⟨h1, h2⟩ := files_ahead W l (n + 1) fun z hz => h z (List.mem_cons_of_mem _ hz)
  rw [List.zipIdx_cons, List.map_cons, List.flatten_cons]
  dsimp only
  have hf := file_file W n y.2
  obtain ⟨k1, k2⟩ := h y (by simp)
  have hs := (file_places W n y.2 0 k2)
  have hp : (fileUses W n (itemsM n y.2)).Pairwise Ahead := by
   have := List.Pairwise.sublist hs k1
   have e : places (((itemsM n y.2).zipIdx 0).map fun y => itemUses W n y.2 y.1).flatten = (fileUses W n (itemsM n y.2)).map (·.at_) := rfl
   rw [e, List.pairwise_map] at this
   refine List.Pairwise.imp_of_mem ?_ this
   intro a b ha hb hab
   exact .inr ⟨(hf a ha).trans (hf b hb).symm, hab⟩
  refine ⟨List.pairwise_append.2 ⟨hp, h1, fun u hu v hv => .inl ?_⟩, fun u hu => ?_⟩
  ·have := hf u hu; have := h2 v hv; omega
  ·rcases List.mem_append.1 hu with hu | hu
   ·have := hf u hu; omega
   ·have := h2 u hu; omega
theorem uses_ahead (l : List (List UInt8 × List Tr.Kd)) (h : ∀ y ∈ l, KidsOk y.2) : (usesM (workM l)).Pairwise Ahead := by
 have h1 := (files_ahead (workM l) l 0 h).1
 have e : (workM l).items.zipIdx.map (fun y => fileUses (workM l) y.2 y.1) = (l.zipIdx 0).map fun y => fileUses (workM l) y.2 (itemsM y.2 y.1.2) := by
  unfold workM
  dsimp only
  apply List.ext_getElem?
  intro i
  simp only [List.getElem?_map, List.getElem?_zipIdx]
  cases l[i]? <;> simp
 unfold usesM
 rw [e]
 exact h1
def atM (U : List Us) (f a : Int) : List Us := U.filter fun v => decide ((v.file : Int) = f) && decide ((v.at_ : Int) = a)
theorem stands_law (l : List (List UInt8 × List Tr.Kd)) (h : ∀ y ∈ l, KidsOk y.2) : ∀ u ∈ usesM (workM l), u.to_ < 0 ∨ ∃ v, atM (usesM (workM l)) u.toFile u.to_ = [v] ∧ v.toFile = v.file ∧ v.to_ = v.at_ ∧ v.as_ ≤ 2 := by
 have hA := uses_ahead l h
 intro u hu
 rcases uses_std l u hu with h1 | ⟨f, a, e1, e2, v, hv, v1, v2, v3, v4, v5⟩
 ·exact .inl (by omega)
 ·refine .inr ⟨v, ?_, by rw [v3, v1], by rw [v4, v2], v5⟩
  rw [e1, e2]
  generalize usesM (workM l) = L at *
  clear hu
  unfold atM
  have key : ∀ L : List Us, L.Pairwise Ahead → v ∈ L → L.filter (fun v => decide ((v.file : Int) = (f : Int)) && decide ((v.at_ : Int) = (a : Int))) = [v] := by
   intro L
   induction L with
   | nil => intro _ hv; exact absurd hv (by simp)
   | cons z L ih =>
    intro hA hv
    rw [List.pairwise_cons] at hA
    obtain ⟨hz, hL⟩ := hA
    rcases List.mem_cons.1 hv with rfl | hv
    ·rw [List.filter_cons_of_pos (by simp [v1, v2])]
     congr 1
     rw [List.filter_eq_nil_iff]
     intro y hy hc
     have := hz y hy
     simp only [Bool.and_eq_true, decide_eq_true_eq] at hc
     unfold Ahead at this
     omega
    ·rw [List.filter_cons_of_neg]
     ·exact ih hL hv
     ·intro hc
      have := hz v hv
      simp only [Bool.and_eq_true, decide_eq_true_eq] at hc
      unfold Ahead at this
      omega
  exact key L hA hv
end Go.Proofs.YtcjjfeephaddcaaGreatDoor.Sc
namespace Go.Proofs.YtcjjfeephaddcaaGreatDoor
open Go.RowKit Go.Maps
abbrev ptrV (g : Nat) : Value := .pointer (some ⟨g, 0, none⟩)
def itC (x : Sc.It) (tw : Bool) (pb : Nat) (nv : Value) (A : Option Addr) (c : Nat) (ev mv me av : Value) : Array Value :=
 #[.int .i64 (x.file : Int), .int .i64 (x.base : Int), ptrV pb, .bool x.pub, .bool tw, nv, .bool x.hasParams, .slice A x.params.length c, ev, .bool x.has, mv, me, av]
def ItF (w : World) (F : Nat → Prop) (x : Sc.It) (tw : Bool) (g : Nat) : Prop :=
 F g ∧ (Sc.kindOf x.part = if x.isDef then 4 else 3) ∧ ∃ pb nv A c ev mv me av, Blk w g 234 (itC x tw pb nv A c ev mv me av) ∧ PtF w F x.part (.iface 114 (ptrV pb)) ∧ WdF w F x.name nv ∧
  x.params.length ≤ c ∧ WdR w F A x.params ∧ (∀ br o, A = some ⟨br, o, none⟩ → 0 < x.params.length → ∃ cs fr, w.heap[br]? = some (.cells cs 231 fr)) ∧
  (x.isDef = true → PtF w F x.expr ev) ∧ WdF w F x.mo mv ∧ WdF w F x.me me ∧ WdF w F x.al av
theorem ItF.keep {w w' : World} {F F' : Nat → Prop} (hs : w.heap.size ≤ w'.heap.size) (hk : ∀ b, F b → b < w.heap.size → w'.heap[b]? = w.heap[b]? ∧ F' b) {x : Sc.It} {tw : Bool} {g : Nat} (h : ItF w F x tw g) : ItF w' F' x tw g := by
 obtain ⟨hF, hkd, pb, nv, A, c, ev, mv, me, av, hB, hp, hn, hc, hr, hty, he, h1, h2, h3⟩ := h
 have hg := hk g hF hB.lt
 refine ⟨hg.2, hkd, pb, nv, A, c, ev, mv, me, av, hg.1.trans hB, PtF.keep hs hk _ _ hp, hn.keep hk, hc, hr.keep hs hk, fun br o e hl => ?_, fun hd => PtF.keep hs hk _ _ (he hd), h1.keep hk, h2.keep hk, h3.keep hk⟩
 obtain ⟨cs, fr, hb⟩ := hty br o e hl
 obtain ⟨vs, hrow, hw⟩ := hr
 obtain ⟨br', o', e', hFb, hlb, _⟩ := hrow (by have := hw.len; omega)
 rw [e] at e'
 injection e' with e'
 injection e' with e' _
 subst e'
 exact ⟨cs, fr, (hk br hFb hlb).1.trans hb⟩
def itemElem (v : Value) : Option (DataW Unit × List MemPlace) := match v with
 | .pointer none => some (.lit (.int .i64 (-1)), [])
 | .pointer (some ⟨b, 0, none⟩) => some (.lit (.int .i64 (b : Int)), [])
 | _ => none
theorem itemElem_inv {v : Value} {b : Nat} {ps : List MemPlace} (h : itemElem v = some (.lit (.int .i64 (b : Int)), ps)) : v = ptrV b := by
 unfold itemElem at h
 split at h
 ·injection h with h
  injection h with h _
  injection h with h
  injection h with _ h
  omega
 ·injection h with h
  injection h with h _
  injection h with h
  injection h with _ h
  obtain rfl := Int.ofNat.inj h
  rfl
 ·cases h
def MapIs (D : DataW Unit) (l : List Sc.It) (G : List Nat) : Prop := ∀ n : Bs, Maps.has D (.string n) = (Sc.foundM l n).isSome ∧ ∀ (k g : Nat), Sc.foundM l n = some k → G[k]? = some g → D.atKey (.string n) (.lit (.int .i64 (-1))) = .lit (.int .i64 (g : Int))
theorem keyStr : Keyed Tryz.prog 9 := string_keyed Tryz.underlying9
theorem zeroItem (w : World) : (zeroValue 229).run Tryz.prog w = .ok (.pointer none) w := by kernel_rfl
theorem itemElem_none {v : Value} {ps : List MemPlace} (h : itemElem v = some (.lit (.int .i64 (-1)), ps)) : v = .pointer none := by
 unfold itemElem at h
 split at h
 ·rfl
 ·injection h with h
  injection h with h _
  injection h with h
  injection h with _ h
  omega
 ·cases h
def foundV (l : List Sc.It) (G : List Nat) (t : Bs) : Value := match Sc.foundM l t with
 | some k => match G[k]? with
  | some g => ptrV g
  | none => .pointer none
 | none => .pointer none
theorem found_run {w : World} {m n : Nat} {D : DataW Unit} {l : List Sc.It} {G : List Nat} (h : w.ownsMap Tryz.prog 9 itemElem m n D) (hD : MapIs D l G) (hG : G.length = l.length) (t : Bs) (ht : t.length ≤ maxLen) :
  (Instr.lookup 228 (.map (some m)) (.string ⟨t.toArray⟩) true).run Tryz.prog w = .ok (.tuple #[foundV l G t, .bool (Sc.foundM l t).isSome]) w := by
 obtain ⟨v, ps, hrun, hv⟩ := h.look_ok keyStr Tryz.underlying228 (zeroItem w) (zd := .lit (.int .i64 (-1))) (zp := []) rfl (key := .string ⟨t.toArray⟩) (kl := .string t) (by
  have := WideMaps.keyOf_string_mk (P := Tryz.prog) Tryz.underlying9 (s := (⟨t.toArray⟩ : ByteArray)) (by rw [mk_size]; exact ht)
  simpa using this)
 have h1 := (hD t).1
 rw [h1] at hrun
 have : v = foundV l G t := by
  unfold foundV
  cases hf : Sc.foundM l t with
  | none =>
   rw [hf] at h1
   rw [atKey_of_not_has h1] at hv
   exact itemElem_none hv
  | some k =>
   obtain ⟨y, hy, _⟩ := Sc.found_at hf
   have hk := (List.getElem?_eq_some_iff.1 hy).1
   rw [← hG] at hk
   dsimp only
   rw [List.getElem?_eq_getElem hk]
   rw [(hD t).2 k _ hf (List.getElem?_eq_getElem hk)] at hv
   exact itemElem_inv hv
 rw [← this]
 exact hrun
structure WkF (w : World) (F : Nat → Prop) (pg : Nat) (A : Option Addr) (c : Nat) (fs : List Fl) (Ad : Option Addr) (cd : Nat) (W : Sc.Wk) (GG : List (List Nat)) : Prop where
 p0 : w.cell? ⟨pg, 0, none⟩ = some (.slice A fs.length c)
 p4 : w.cell? ⟨pg, 4, none⟩ = some (.slice Ad W.items.length cd)
 files : FlR w A fs
 names : W.names = fs.map (·.1)
 fl : fs.length = W.items.length
 few : fs.length ≤ 1000
 gl : GG.length = W.items.length
 nd : GG.flatten.Nodup
 its : ∀ (f : Nat) (l : List Sc.It) (G : List Nat), W.items[f]? = some l → GG[f]? = some G → G.length = l.length ∧ ∀ (k : Nat) (x : Sc.It) (g : Nat), l[k]? = some x → G[k]? = some g → ItF w F x (Sc.twiceM l k) g
 fil : ∀ (f : Nat) (l : List Sc.It), W.items[f]? = some l → l.length ≤ 1000000 ∧ ∀ x ∈ l, x.file = f ∧ (∀ y : Sc.Wd, x.name = some y → y.at_ ≤ 1000000000) ∧ (∀ y : Sc.Wd, x.me = some y → y.text.length ≤ 1000000)
 fnd : ∃ ms : List Nat, ms.length = W.items.length ∧ RowF w F Ad (ms.map fun m => .map (some m)) ∧ ∀ (f : Nat) (l : List Sc.It) (G : List Nat) (m : Nat), W.items[f]? = some l → GG[f]? = some G → ms[f]? = some m → ∃ (n : Nat) (D : DataW Unit), F m ∧ w.ownsMap Tryz.prog 9 itemElem m n D ∧ MapIs D l G
theorem own_map_keep {w w' : World} {P : Program} {k : TypeId} {R : Value → Option (DataW Unit × List MemPlace)} {m n : Nat} {D : DataW Unit} (h : w.ownsMap P k R m n D) (hk : w'.heap[m]? = w.heap[m]?) : w'.ownsMap P k R m n D := by
 obtain ⟨es, clock, hb, r⟩ := h
 exact ⟨es, clock, hk.trans hb, r⟩
theorem WkF.keep {w w' : World} {F : Nat → Prop} {pg : Nat} {A : Option Addr} {c : Nat} {fs : List Fl} {Ad : Option Addr} {cd : Nat} {W : Sc.Wk} {GG : List (List Nat)} (h : WkF w F pg A c fs Ad cd W GG) (hs : w.heap.size ≤ w'.heap.size)
  (h0 : w'.cell? ⟨pg, 0, none⟩ = w.cell? ⟨pg, 0, none⟩) (h4 : w'.cell? ⟨pg, 4, none⟩ = w.cell? ⟨pg, 4, none⟩) (hf : FlR w' A fs) (hk : ∀ b, F b → b < w.heap.size → w'.heap[b]? = w.heap[b]?) : WkF w' F pg A c fs Ad cd W GG := by
 have hk2 : ∀ b, F b → b < w.heap.size → w'.heap[b]? = w.heap[b]? ∧ F b := fun b hb hl => ⟨hk b hb hl, hb⟩
 refine ⟨h0.trans h.p0, h4.trans h.p4, hf, h.names, h.fl, h.few, h.gl, h.nd, fun f l G h1 h2 => ⟨(h.its f l G h1 h2).1, fun k x g h3 h4 => ((h.its f l G h1 h2).2 k x g h3 h4).keep hs hk2⟩, h.fil, ?_⟩
 obtain ⟨ms, h1, h2, h3⟩ := h.fnd
 refine ⟨ms, h1, h2.keep hs hk2, fun f l G m e1 e2 e3 => ?_⟩
 obtain ⟨n, D, hF, ho, hD⟩ := h3 f l G m e1 e2 e3
 exact ⟨n, D, hF, own_map_keep ho (hk m hF ho.lt), hD⟩
theorem WkF.below {w w' : World} {F : Nat → Prop} {pg : Nat} {A : Option Addr} {c : Nat} {fs : List Fl} {Ad : Option Addr} {cd : Nat} {W : Sc.Wk} {GG : List (List Nat)} (h : WkF w F pg A c fs Ad cd W GG) (hd : Below w.heap.size w w') : WkF w' F pg A c fs Ad cd W GG :=
 h.keep hd.size (hd.cell (p := ⟨pg, 0, none⟩) (World.block_lt_of_cell? w _ h.p0)) (hd.cell (p := ⟨pg, 4, none⟩) (World.block_lt_of_cell? w _ h.p4)) (h.files.below hd) fun b _ hl => hd.block b hl
set_option maxHeartbeats 4000000 in
set_option maxRecDepth 100000 in
theorem sc_iidx {w : World} {B : Nat} {A : Option Addr} {c : Nat} {gs : List Nat} (hown : w.ownsRow B 229 1 (.slice A gs.length c) gs.length (gs.map ptrV)) (hl : gs.length ≤ 1000000000) (g : Nat) (hB : ∀ x, x = g ∨ x ∈ gs → ∃ t cs, Blk w x t cs) :
  Calls Tryz.prog 239 #[.slice A gs.length c, ptrV g] w (IdxE (Sc.idxV (fun x => g == x) gs) w) := by
 have Hl := Lib.hid hl
 have HBl : Hid (∀ x, x = g ∨ x ∈ gs → ∃ t cs, Blk w x t cs) := hB
 obtain ⟨jt, hjt, hj0⟩ : ∃ j, Tryz.prog.info? 234 = some j ∧ j.size ≠ 0 := by
  have h : (Tryz.prog.info? 234).map (fun i => i.size) = some 13 := by kernel_rfl
  rw [Option.map_eq_some_iff] at h
  obtain ⟨j, h1, h2⟩ := h
  exact ⟨j, h1, by omega⟩
 clear hl hB
 unfold ptrV at *
 go_enter Tryz.func239, Tryz.ntmps239
 go_wp2_with fail
 go_loopg [8] gs.length (fun m v wr => wr = w ∧ ∃ i : Nat, v = .int .i64 (i : Int) ∧ i ≤ gs.length ∧ gs.length - i ≤ m ∧ Hid (∀ j (hj : j < gs.length), j < i → (g == gs[j]) = false))
 case atStart => exact ⟨rfl, 0, rfl, Nat.zero_le _, Nat.le_refl _, fun j _ h => absurd h (by omega)⟩
 case round =>
  obtain ⟨rfl, i, rfl, hi, hm, HB⟩ := hrel
  by_cases hlt : i < gs.length
  ·have ii0 : (0 : Int) ≤ (i : Int) := by omega
   have ii1 : (i : Int) < (gs.length : Int) := by omega
   obtain ⟨r0, rfl, hc⟩ := own_at hown (by omega)
   have q0 := hc i _ (by rw [List.getElem?_map, List.getElem?_eq_getElem hlt]; rfl)
   have c1 : IntKind.i64.wrap ((i : Int) + 1) = (i : Int) + 1 := IntWalk.i64_in _ (by have := Hl.out; omega)
   obtain ⟨tx, cx, hBx⟩ := HBl.out gs[i] (.inr (List.getElem_mem hlt))
   obtain ⟨tg, cg, hBg⟩ := HBl.out g (.inl rfl)
   have HE : Hid (g = gs[i] → Sc.idxV (fun x => g == x) gs = (i : Int)) := fun h => Sc.idx_at (P := fun x => g == x) hlt (by simpa using h) HB.out
   have HN : Hid (g ≠ gs[i] → ∀ j (hj : j < gs.length), j < i + 1 → (g == gs[j]) = false) := fun h j hj hji => by
    rcases Nat.lt_or_ge j i with h' | h'
    ·exact HB.out j hj h'
    ·obtain rfl : j = i := by omega
     simpa using h
   have Hlt := Lib.hid hlt
   have Hm := Lib.hid hm
   generalize gs[i] = x at *
   clear hc hlt hm hi HB
   by_cases hgx : g = x
   ·have HE1 := Lib.hid (HE.out hgx)
    subst hgx
    have heq := run_eql_ptr_same (P := Tryz.prog) wr ⟨g, 0, none⟩ Tryz.underlying229 hjt
    clear HE HN hBx hBg
    go_wp2_with fail
    go_ret
    exact ⟨by rw [HE1.out]; rfl, Below.refl _ _⟩
   ·have heq := run_eql_ptr_other (P := Tryz.prog) wr (a := ⟨g, 0, none⟩) (b := ⟨x, 0, none⟩) Tryz.underlying229 hjt hj0 (fun e => hgx (by injection e)) hBg hBx
    clear hBg hBx
    have HN := Lib.hid (HN.out hgx)
    clear HE hgx
    go_wp2_with fail
    go_roundg (gs.length - (i + 1))
    case rel => exact ⟨rfl, i + 1, by go_num, by have := Hlt.out; omega, Nat.le_refl _, HN⟩
    case measure => have := Hlt.out; have := Hm.out; omega
  ·obtain rfl : i = gs.length := by omega
   have i1 : ¬ (gs.length : Int) < (gs.length : Int) := by omega
   have i2 : decide (gs.length < gs.length) = false := by simp
   have HR := Lib.hid (Sc.idx_none (P := fun x => g == x) fun j hj => HB.out j hj hj)
   clear hlt hi hm HB
   go_wp2_with fail
   go_ret
   rw [HR.out]
   exact ⟨rfl, Below.refl _ _⟩
set_option maxHeartbeats 4000000 in
set_option maxRecDepth 100000 in
theorem sc_iany {w : World} {B : Nat} {A : Option Addr} {c : Nat} {gs : List Nat} (hown : w.ownsRow B 229 1 (.slice A gs.length c) gs.length (gs.map ptrV)) (hl : gs.length ≤ 1000000000) (g : Nat) (hB : ∀ x, x = g ∨ x ∈ gs → ∃ t cs, Blk w x t cs) :
  Calls Tryz.prog 219 #[.slice A gs.length c, ptrV g] w (TestE (gs.any fun x => g == x) w) := by
 have hi := sc_iidx hown hl g hB
 have HA := Lib.hid (Sc.idx_any (fun x => g == x) gs)
 generalize Sc.idxV (fun x => g == x) gs = i at *
 generalize (gs.any fun x => g == x) = b at *
 clear hown hl hB
 unfold ptrV at *
 go_enter Tryz.func219, Tryz.ntmps219
 go_wp2_with fail
 refine hi.mono ?_
 clear hi
 rintro e w1 ⟨rfl, hd⟩
 go_wp2_with fail
 go_ret
 exact ⟨by rw [← HA.out]; rfl, hd⟩
set_option maxHeartbeats 4000000 in
set_option maxRecDepth 100000 in
theorem sc_def {w : World} {g pb : Nat} {kd : Nat} (h2 : w.cell? ⟨g, 2, none⟩ = some (ptrV pb)) (h0 : w.cell? ⟨pb, 0, none⟩ = some (.int .i64 (kd : Int))) :
  Calls Tryz.prog 121 #[ptrV g] w (TestE (kd == 4) w) := by
 unfold ptrV at *
 go_enter Tryz.func121, Tryz.ntmps121
 go_wp2_with fail
 go_ret
 refine ⟨?_, Below.refl _ _⟩
 have : ((kd : Int) == 4) = (kd == 4) := by
  rw [Bool.eq_iff_iff]
  simp
  omega
 simp [this]
def blkG (GG : List (List Nat)) (p : Nat × Nat) : Nat := ((GG[p.1]?.getD [])[p.2]?).getD 0
def OkP (GG : List (List Nat)) (p : Nat × Nat) : Prop := ∃ G g, GG[p.1]? = some G ∧ G[p.2]? = some g
theorem blk_of {GG : List (List Nat)} {p : Nat × Nat} {G : List Nat} {g : Nat} (h1 : GG[p.1]? = some G) (h2 : G[p.2]? = some g) : blkG GG p = g := by
 unfold blkG
 rw [h1, Option.getD_some, h2, Option.getD_some]
theorem blk_inj : ∀ {GG : List (List Nat)}, GG.flatten.Nodup → ∀ {p q : Nat × Nat}, OkP GG p → OkP GG q → blkG GG p = blkG GG q → p = q
 | [], _, p, q, hp, _, _ => by
  obtain ⟨G, g, h1, _⟩ := hp
  simp at h1
 | G0 :: GG, hn, (f, k), (f', k'), ⟨G, g, h1, h2⟩, ⟨G', g', h1', h2'⟩, e => by
  rw [blk_of h1 h2, blk_of h1' h2'] at e
  subst e
  rw [List.flatten_cons, List.nodup_append] at hn
  obtain ⟨n1, n2, n3⟩ := hn
  cases f with
  | zero =>
   cases f' with
   | zero =>
    simp only [List.getElem?_cons_zero, Option.some.injEq] at h1 h1'
    subst h1 h1'
    have := (List.getElem?_inj (List.getElem?_eq_some_iff.1 h2).1 n1).1 (h2.trans h2'.symm)
    dsimp only at this
    rw [this]
   | succ f' =>
    simp only [List.getElem?_cons_zero, List.getElem?_cons_succ, Option.some.injEq] at h1 h1'
    subst h1
    exact absurd rfl (n3 g (List.mem_of_getElem? h2) g (List.mem_flatten.2 ⟨G', List.mem_of_getElem? h1', List.mem_of_getElem? h2'⟩))
  | succ f =>
   cases f' with
   | zero =>
    simp only [List.getElem?_cons_zero, List.getElem?_cons_succ, Option.some.injEq] at h1 h1'
    subst h1'
    exact absurd rfl (n3 g (List.mem_of_getElem? h2') g (List.mem_flatten.2 ⟨G, List.mem_of_getElem? h1, List.mem_of_getElem? h2⟩))
   | succ f' =>
    simp only [List.getElem?_cons_succ] at h1 h1'
    have := blk_inj n2 (p := (f, k)) (q := (f', k')) ⟨G, g, h1, h2⟩ ⟨G', g, h1', h2'⟩ (by rw [blk_of (p := (f, k)) h1 h2, blk_of (p := (f', k')) h1' h2'])
    injection this with e1 e2
    rw [e1, e2]
theorem nodup_le : ∀ {l m : List Nat}, l.Nodup → (∀ x ∈ l, x ∈ m) → l.length ≤ m.length
 | [], _, _, _ => Nat.zero_le _
 | x :: l, m, hn, hs => by
  rw [List.nodup_cons] at hn
  have hx := hs x (by simp)
  have ih := nodup_le (l := l) (m := m.erase x) hn.2 fun y hy => (List.mem_erase_of_ne (fun e => hn.1 (by rw [← e]; exact hy))).2 (hs y (List.mem_cons_of_mem _ hy))
  rw [List.length_erase_of_mem hx] at ih
  have := List.length_pos_of_mem hx
  rw [List.length_cons]
  omega
theorem many_le {GG : List (List Nat)} (hn : GG.flatten.Nodup) {M : List (Nat × Nat)} (hM : M.Nodup) (hv : ∀ p ∈ M, OkP GG p) : M.length ≤ GG.flatten.length := by
 have h1 : (M.map (blkG GG)).Nodup := by
  rw [List.nodup_iff_pairwise_ne, List.pairwise_map]
  exact List.Pairwise.imp_of_mem (fun {a b} ha hb hab e => hab (blk_inj hn (hv a ha) (hv b hb) e)) (List.nodup_iff_pairwise_ne.1 hM)
 have h2 := nodup_le h1 (m := GG.flatten) fun x hx => by
  obtain ⟨p, hp, rfl⟩ := List.mem_map.1 hx
  obtain ⟨G, g, e1, e2⟩ := hv p hp
  rw [blk_of e1 e2]
  exact List.mem_flatten.2 ⟨G, List.mem_of_getElem? e1, List.mem_of_getElem? e2⟩
 rwa [List.length_map] at h2
theorem any_blk {GG : List (List Nat)} (hn : GG.flatten.Nodup) {M : List (Nat × Nat)} (hv : ∀ p ∈ M, OkP GG p) {q : Nat × Nat} (hq : OkP GG q) : ((M.map (blkG GG)).any fun x => blkG GG q == x) = M.contains q := by
 rw [Bool.eq_iff_iff, List.any_map, List.any_eq_true, List.contains_iff_mem]
 constructor
 ·rintro ⟨p, hp, e⟩
  have e : blkG GG q = blkG GG p := by simpa using e
  rw [blk_inj hn hq (hv p hp) e]
  exact hp
 ·intro h
  exact ⟨q, h, by simp⟩
theorem len_flat : ∀ {GG : List (List Nat)} {L : List (List Sc.It)}, GG.length = L.length → (∀ (f : Nat) (l : List Sc.It) (G : List Nat), L[f]? = some l → GG[f]? = some G → G.length = l.length) → GG.flatten.length = (L.map List.length).sum
 | [], [], _, _ => rfl
 | G :: GG, l :: L, h, hh => by
  rw [List.flatten_cons, List.length_append, List.map_cons, List.sum_cons, hh 0 l G rfl rfl, len_flat (GG := GG) (L := L) (by simpa using h) fun f l' G' e1 e2 => hh (f + 1) l' G' e1 e2]
theorem Sc.idx_find {α : Type} (P : α → Bool) : ∀ l : List α, Sc.idxV P l = match l.findIdx? P with | some i => (i : Int) | none => -1
 | l => by
  cases h : l.findIdx? P with
  | none =>
   rw [List.findIdx?_eq_none_iff] at h
   exact Sc.idx_none fun j hj => by simpa using h _ (List.getElem_mem hj)
  | some i =>
   rw [List.findIdx?_eq_some_iff_getElem] at h
   obtain ⟨hi, h1, h2⟩ := h
   exact Sc.idx_at hi h1 fun j hj hji => by simpa using h2 j hji
theorem Sc.file_v (W : Sc.Wk) (x : Sc.It) : Sc.fileV W.names x.mo = match Sc.fileM W x with | some i => (i : Int) | none => -1 := by
 unfold Sc.fileV Sc.fileM
 cases x.mo with
 | none => rfl
 | some m => exact Sc.idx_find _ _
theorem ItF.kind {w : World} {F : Nat → Prop} {x : Sc.It} {tw : Bool} {g : Nat} (h : ItF w F x tw g) : ∃ pb, w.cell? ⟨g, 2, none⟩ = some (ptrV pb) ∧ w.cell? ⟨pb, 0, none⟩ = some (.int .i64 ((if x.isDef then 4 else 3 : Nat) : Int)) := by
 obtain ⟨_, hkd, pb, nv, A, c, ev, mv, me, av, hB, hp, _⟩ := h
 refine ⟨pb, hB.cell 2, ?_⟩
 cases hx : x.part with
 | leaf k t a => rw [hx] at hp; obtain ⟨q, e, _⟩ := hp; injection e with e _; cases e
 | gap t a d => rw [hx] at hp; obtain ⟨q, e, _⟩ := hp; injection e with e _; cases e
 | branch k a l =>
  rw [hx] at hp hkd
  obtain ⟨q, e, _, A, c, vs, hB2, _⟩ := hp
  injection e with _ e
  injection e with e
  injection e with e
  injection e with e
  subst e
  have := hB2.cell 0
  simp at this
  rw [← hkd]
  exact this
theorem ItF.blk {w : World} {F : Nat → Prop} {x : Sc.It} {tw : Bool} {g : Nat} (h : ItF w F x tw g) : ∃ t cs, Blk w g t cs := by
 obtain ⟨_, _, pb, nv, A, c, ev, mv, me, av, hB, _⟩ := h
 exact ⟨_, _, hB⟩
theorem kind_beq (b : Bool) : ((if b then 4 else 3 : Nat) == 4) = b := by cases b <;> rfl
def TargE (r : Int × Int × Nat) (w : World) (e : Ending) (w' : World) : Prop := e = .returned (.tuple #[.int .i64 r.1, .int .i64 r.2.1, .int .i64 (r.2.2 : Int)]) ∧ Below w.heap.size w w'
structure ItAt (W : Sc.Wk) (GG : List (List Nat)) (f k : Nat) (x : Sc.It) (g : Nat) : Prop where
 ex : ∃ l G, W.items[f]? = some l ∧ l[k]? = some x ∧ GG[f]? = some G ∧ G[k]? = some g
theorem ItAt.okP {W : Sc.Wk} {GG : List (List Nat)} {f k g : Nat} {x : Sc.It} (h : ItAt W GG f k x g) : OkP GG (f, k) := by
 obtain ⟨l, G, _, _, h3, h4⟩ := h.ex
 exact ⟨G, g, h3, h4⟩
theorem ItAt.blk {W : Sc.Wk} {GG : List (List Nat)} {f k g : Nat} {x : Sc.It} (h : ItAt W GG f k x g) : blkG GG (f, k) = g := by
 obtain ⟨l, G, _, _, h3, h4⟩ := h.ex
 exact blk_of h3 h4
section
variable {w : World} {F : Nat → Prop} {pg : Nat} {A : Option Addr} {c : Nat} {fs : List Fl} {Ad : Option Addr} {cd : Nat} {W : Sc.Wk} {GG : List (List Nat)}
theorem WkF.item (h : WkF w F pg A c fs Ad cd W GG) {f k g : Nat} {x : Sc.It} (hx : ItAt W GG f k x g) : ∃ tw, ItF w F x tw g := by
 obtain ⟨l, G, h1, h2, h3, h4⟩ := hx.ex
 exact ⟨_, (h.its f l G h1 h3).2 k x g h2 h4⟩
theorem WkF.file_of (h : WkF w F pg A c fs Ad cd W GG) {f k g : Nat} {x : Sc.It} (hx : ItAt W GG f k x g) : x.file = f ∧ (∀ y : Sc.Wd, x.name = some y → y.at_ ≤ 1000000000) ∧ (∀ y : Sc.Wd, x.me = some y → y.text.length ≤ 1000000) ∧ f < W.items.length := by
 obtain ⟨l, G, h1, h2, h3, h4⟩ := hx.ex
 have := (h.fil f l h1).2 x (List.mem_of_getElem? h2)
 exact ⟨this.1, this.2.1, this.2.2, (List.getElem?_eq_some_iff.1 h1).1⟩
theorem WkF.look (h : WkF w F pg A c fs Ad cd W GG) {f : Nat} (hf : f < W.items.length) {t : Bs} (ht : t.length ≤ 1000000) :
  ∃ ab ao m G, Ad = some ⟨ab, ao, none⟩ ∧ F ab ∧ ab < w.heap.size ∧ F m ∧ m < w.heap.size ∧ w.cell? ⟨ab, ao + f, none⟩ = some (.map (some m)) ∧ GG[f]? = some G ∧ G.length = (Sc.itemsAt W f).length ∧
   ∀ w' : World, w'.heap[m]? = w.heap[m]? → (Instr.lookup 228 (.map (some m)) (.string ⟨t.toArray⟩) true).run Tryz.prog w' = .ok (.tuple #[foundV (Sc.itemsAt W f) G t, .bool (Sc.foundM (Sc.itemsAt W f) t).isSome]) w' := by
 obtain ⟨ms, h1, h2, h3⟩ := h.fnd
 have hl : W.items[f]? = some W.items[f] := List.getElem?_eq_getElem hf
 have hG : GG[f]? = some (GG[f]'(by rw [h.gl]; exact hf)) := List.getElem?_eq_getElem _
 have hm : ms[f]? = some (ms[f]'(by rw [h1]; exact hf)) := List.getElem?_eq_getElem _
 obtain ⟨n, D, hFm, ho, hD⟩ := h3 f _ _ _ hl hG hm
 obtain ⟨ab, ao, e, hFa, hla, hc⟩ := h2 (by rw [List.length_map]; omega)
 have e1 : Sc.itemsAt W f = W.items[f] := by unfold Sc.itemsAt; rw [hl]; rfl
 have hlen := (h.its f _ _ hl hG).1
 rw [e1]
 refine ⟨ab, ao, _, _, e, hFa, hla, hFm, ho.lt, hc f _ (by rw [List.getElem?_map, hm]; rfl), hG, hlen, fun w' hw => ?_⟩
 exact found_run (own_map_keep ho hw) hD hlen t (by unfold maxLen; omega)
theorem found_item (h : WkF w F pg A c fs Ad cd W GG) {f k : Nat} {G : List Nat} {t : Bs} (hG : GG[f]? = some G) (hk : Sc.foundM (Sc.itemsAt W f) t = some k) : ∃ y g v, (Sc.itemsAt W f)[k]? = some y ∧ y.name = some v ∧ ItAt W GG f k y g ∧ foundV (Sc.itemsAt W f) G t = ptrV g := by
 obtain ⟨y, hy, hn⟩ := Sc.found_at hk
 obtain ⟨v, hv, _⟩ := Sc.named_name hn
 have hy' := hy
 unfold Sc.itemsAt at hy'
 cases hl : W.items[f]? with
 | none => rw [hl] at hy'; simp at hy'
 | some l =>
  rw [hl, Option.getD_some] at hy'
  have hkl := (List.getElem?_eq_some_iff.1 hy').1
  have hlen := (h.its f l G hl hG).1
  have hg : G[k]? = some (G[k]'(by omega)) := List.getElem?_eq_getElem _
  refine ⟨y, _, v, hy, hv, ⟨l, G, hl, hy', hG, hg⟩, ?_⟩
  unfold foundV
  rw [hk]
  dsimp only
  rw [hg]
end
structure TgI (W : Sc.Wk) (GG : List (List Nat)) (M : List (Nat × Nat)) (f k : Nat) (x : Sc.It) (g : Nat) : Prop where
 at_ : ItAt W GG f k x g
 ok : ∀ p ∈ M, OkP GG p
 nd : M.Nodup
 new : (f, k) ∉ M
theorem TgI.len {W : Sc.Wk} {GG : List (List Nat)} {M : List (Nat × Nat)} {f k g : Nat} {x : Sc.It} (h : TgI W GG M f k x g) (hn : GG.flatten.Nodup) (hg : GG.flatten.length = Sc.manyM W) : M.length + 1 ≤ Sc.manyM W := by
 have := many_le hn (M := (f, k) :: M) (List.nodup_cons.2 ⟨h.new, h.nd⟩) fun p hp => by
  rcases List.mem_cons.1 hp with rfl | hp
  ·exact h.at_.okP
  ·exact h.ok p hp
 rw [List.length_cons] at this
 omega
theorem TgI.next {W : Sc.Wk} {GG : List (List Nat)} {M : List (Nat × Nat)} {f k g f' k' g' : Nat} {x y : Sc.It} (h : TgI W GG M f k x g) (hy : ItAt W GG f' k' y g') (hc : (M ++ [(f, k)]).contains (f', k') = false) : TgI W GG (M ++ [(f, k)]) f' k' y g' := by
 refine ⟨hy, fun p hp => ?_, ?_, fun hm => ?_⟩
 ·rcases List.mem_append.1 hp with hp | hp
  ·exact h.ok p hp
  ·rw [List.mem_singleton] at hp; rw [hp]; exact h.at_.okP
 ·rw [List.nodup_append]
  exact ⟨h.nd, by simp, fun a ha b hb e => by rw [List.mem_singleton] at hb; subst hb; subst e; exact h.new ha⟩
 ·rw [List.contains_iff_mem.2 hm] at hc; cases hc
mutual
def lowP (b : Nat) : Tr.PT → Prop
 | .leaf _ t a => b + a ≤ 1000000000 ∧ t.length ≤ 1000000
 | .gap _ _ _ => True
 | .branch _ _ l => l.length ≤ 1000000000 ∧ lowsP b l
def lowsP (b : Nat) : List Tr.PT → Prop
 | [] => True
 | p :: l => lowP b p ∧ lowsP b l
end
theorem lows_mem {b : Nat} : ∀ {l : List Tr.PT}, lowsP b l → ∀ p ∈ l, lowP b p
 | [], _, p, hp => absurd hp (by simp)
 | q :: l, h, p, hp => by
  unfold lowsP at h
  rcases List.mem_cons.1 hp with rfl | hp
  ·exact h.1
  ·exact lows_mem h.2 p hp
theorem low_names {b : Nat} {l : List Tr.PT} (h : lowsP b l) : ∀ y : Bs × Nat, some y ∈ Sc.namesL l → b + y.2 ≤ 1000000000 := fun y hy => by
 unfold Sc.namesL at hy
 obtain ⟨p, hp, e⟩ := List.mem_filterMap.1 hy
 have := lows_mem h p hp
 cases p with
 | leaf k t a =>
  simp only [Sc.nameL] at e
  by_cases hk : k = 3
  ·rw [if_pos hk] at e
   injection e with e
   injection e with e
   subst e
   unfold lowP at this
   exact this.1
  ·rw [if_neg hk] at e
   cases e
 | gap t a d =>
  simp only [Sc.nameL] at e
  by_cases ht : t = Tr.sName
  ·rw [if_pos ht] at e; cases e
  ·rw [if_neg ht] at e; cases e
 | branch k a m => cases e
theorem sense_mem {l : List Tr.PT} {p : Tr.PT} (h : p ∈ Sc.senseL l) : p ∈ l := (List.mem_filter.1 h).1
structure Ph (w0 : World) (F : Nat → Prop) (pg mb : Nat) (A : Option Addr) (c : Nat) (fs : List Fl) (Ad : Option Addr) (cd : Nat) (W : Sc.Wk) (GG : List (List Nat)) : Prop where
 wk : WkF w0 F pg A c fs Ad cd W GG
 ok : ∀ x, F x → x < w0.heap.size ∧ x ≠ pg ∧ x ≠ mb
 fb : ∀ b o, A = some ⟨b, o, none⟩ → 0 < fs.length → b ≠ pg ∧ b ≠ mb
 many : Sc.manyM W ≤ 100000000
section
variable {w0 w : World} {F : Nat → Prop} {pg mb : Nat} {A : Option Addr} {c : Nat} {fs : List Fl} {Ad : Option Addr} {cd : Nat} {W : Sc.Wk} {GG : List (List Nat)} {ts is : Value} {us : List Sc.Us}
theorem Ph.same (h : Ph w0 F pg mb A c fs Ad cd W GG) (hP : PgS w0 w pg mb (.slice A fs.length c) ts is (.slice Ad W.items.length cd) us) : ∀ b, F b → b < w0.heap.size → w.heap[b]? = w0.heap[b]? ∧ F b :=
 fun b hb hl => ⟨hP.old b hl (h.ok b hb).2.1 (h.ok b hb).2.2, hb⟩
theorem Ph.at_ (h : Ph w0 F pg mb A c fs Ad cd W GG) (hP : PgS w0 w pg mb (.slice A fs.length c) ts is (.slice Ad W.items.length cd) us) : WkF w F pg A c fs Ad cd W GG := by
 obtain ⟨Au, cu, hB, _⟩ := hP.blk
 refine h.wk.keep hP.size ((hB.cell 0).trans h.wk.p0.symm) ((hB.cell 4).trans h.wk.p4.symm) ?_ fun b hb hl => (h.same hP b hb hl).1
 refine ⟨h.wk.files.1, fun hn => ?_⟩
 obtain ⟨b, o, e, hl, hc⟩ := h.wk.files.2 hn
 obtain ⟨n1, n2⟩ := h.fb b o e hn
 refine ⟨b, o, e, Nat.lt_of_lt_of_le hl hP.size, fun j u hu => ?_⟩
 rw [World.cell?_of_block (w := w0) (a := ⟨b, o + j, none⟩) (hP.old b hl n1 n2)]
 exact hc j u hu
end
theorem EnvF.keepC {T : List TypeId} {w w' : World} {F : Nat → Prop} (hk : KeepC T w w') (ht : 359 ∉ T) : ∀ {e : Sc.Env} {p : Option Addr}, EnvF w F e p → EnvF w' F e p
 | [], _, h => h
 | y :: e, p, h => by
  obtain ⟨g, q, e1, hF, hB, he⟩ := h
  exact ⟨g, q, e1, hF, hB.keepC hk ht, EnvF.keepC hk ht he⟩
theorem own_cap_row {w : World} {B n : Nat} {e : TypeId} {A : Option Addr} {c : Nat} {vs : List Value} (h : w.ownsRow B e 1 (.slice A n c) n vs) (F : Nat → Prop) (hF : ∀ x, B ≤ x → F x) : n ≤ c ∧ RowF w F A vs ∧ ∀ br o, A = some ⟨br, o, none⟩ → 0 < n → ∃ cs fr, w.heap[br]? = some (.cells cs e fr) := by
 obtain ⟨A', c', e1, hle, _⟩ := own_cap h
 injection e1 with e1 _ e2
 subst e1 e2
 refine ⟨hle, fun hn => ?_, fun br o e2 hn => ?_⟩
 ·have hl := h.1
  obtain ⟨g, rfl, hc⟩ := own_at h (by omega)
  have hg := h.lt g rfl
  exact ⟨g, 0, rfl, hF g hg.1, hg.2, fun j u hu => by rw [Nat.zero_add]; exact hc j u hu⟩
 ·obtain ⟨g, e3, _⟩ := own_at h hn
  rw [e2] at e3
  injection e3 with e3
  injection e3 with e3 e4
  subst e3 e4
  exact own_ty h br (by rw [e2]; rfl)
theorem bd_itemp : (Tryz.prog.info? 229).map (fun i => (i.zero, i.size, i.bytes)) = some (some (.pointer none), 1, 8) := by kernel_rfl
theorem Sc.target_succ (W : Sc.Wk) (n : Nat) (M : List (Nat × Nat)) (p : Nat × Nat) (x : Sc.It) : Sc.targetM W (n + 1) M p x = match Sc.stepM W x with
  | .is f a e => (f, a, e)
  | .at_ f k => if (M ++ [p]).contains (f, k) then (-1, -1, 7) else
   match (Sc.itemsAt W f)[k]? with
   | some y => Sc.targetM W n (M ++ [p]) (f, k) y
   | none => (-1, -1, 7) := rfl
theorem own_below {w w' : World} {B : Nat} {e : TypeId} {size n : Nat} {v : Value} {xs : List Value} (h : w.ownsRow B e size v n xs) (hd : Below w.heap.size w w') : w'.ownsRow B e size v n xs := own_of_block h fun k hk => hd.block k (h.lt k hk).2
theorem Sc.fileM_lt {W : Sc.Wk} {x : Sc.It} {f : Nat} (h : Sc.fileM W x = some f) : f < W.names.length := by
 unfold Sc.fileM at h
 cases hm : x.mo with
 | none => rw [hm] at h; cases h
 | some m =>
  rw [hm] at h
  exact (List.findIdx?_eq_some_iff_getElem.1 h).1
def LookS (pg g ab ao f m gm : Nat) (fd : Value) (t : Bs) (v : Value) (b : Bool) (w' : World) : Prop :=
 w'.cell? ⟨pg, 4, none⟩ = some fd ∧ w'.cell? ⟨ab, ao + f, none⟩ = some (.map (some m)) ∧ w'.cell? ⟨g, 11, none⟩ = some (ptrV gm) ∧ w'.cell? ⟨gm, 0, none⟩ = some (.string ⟨t.toArray⟩) ∧
 (Instr.lookup 228 (.map (some m)) (.string ⟨t.toArray⟩) true).run Tryz.prog w' = .ok (.tuple #[v, .bool b]) w'
set_option maxHeartbeats 16000000 in
set_option maxRecDepth 100000 in
theorem sc_target {w : World} {F : Nat → Prop} {pg : Nat} {A : Option Addr} {c : Nat} {fs : List Fl} {Ad : Option Addr} {cd : Nat} {W : Sc.Wk} {GG : List (List Nat)} (h : WkF w F pg A c fs Ad cd W GG) (hmany : Sc.manyM W ≤ 100000000) {f k g : Nat} {x : Sc.It} (hx : ItAt W GG f k x g) :
  Calls Tryz.prog 174 #[.pointer (some ⟨pg, 0, none⟩), ptrV g] w (TargE (Sc.standsM W f k x) w) := by
 obtain ⟨i0, ji, jz0, jz1, jz2⟩ := info_parts bd_itemp
 have hgl := len_flat h.gl fun f l G e1 e2 => (h.its f l G e1 e2).1
 have Hgl : Hid (GG.flatten.length = Sc.manyM W) := hgl
 have Hmany := Lib.hid hmany
 generalize hR : Sc.standsM W f k x = R
 have HR : Hid (R = Sc.targetM W (Sc.manyM W + 1) [] (f, k) x) := hR.symm
 clear hR hgl hmany
 unfold ptrV
 go_enter Tryz.func174, Tryz.ntmps174
 go_wp2_with fail
 go_loopg [1, 7] (Sc.manyM W + 1) (fun m v u wr => ∃ (n f k : Nat) (x : Sc.It) (g : Nat) (M : List (Nat × Nat)) (Am : Option Addr) (cm : Nat), v = .pointer (some ⟨g, 0, none⟩) ∧ u = .slice Am M.length cm ∧ TgI W GG M f k x g ∧ wr.ownsRow w.heap.size 229 1 (.slice Am M.length cm) M.length ((M.map (blkG GG)).map ptrV) ∧ Hid (R = Sc.targetM W n M (f, k) x) ∧ Hid (n + M.length = Sc.manyM W + 1) ∧ n ≤ m ∧ Below w.heap.size w wr)
 case atStart => exact ⟨Sc.manyM W + 1, f, k, x, g, [], none, 0, rfl, rfl, ⟨hx, fun p hp => absurd hp (by simp), List.nodup_nil, by simp⟩, World.ownsRow_nil _ _ _ _, HR, rfl, Nat.le_refl _, Below.refl _ _⟩
 case round =>
  clear HR hx
  obtain ⟨n, f, k, x, g, M, Am, cm, rfl, rfl, hT, hown, HR, HN, hm, hd⟩ := hrel
  have hlen := hT.len h.nd Hgl.out
  obtain ⟨n', rfl⟩ : ∃ n', n = n' + 1 := ⟨n - 1, by have := HN.out; omega⟩
  have HR : Hid (R = _) := (show R = _ from HR.out).trans (Sc.target_succ W n' M (f, k) x)
  have Hn : Hid (M.length ≤ 1000000000) := by have := Hmany.out; show _ ≤ _; omega
  have Hsz := Lib.hid hd.size
  have Hm := Lib.hid hm
  clear hlen hm
  go_upto_region 3 with (at_builtin; refine wpList_push wr rfl _ _ 227 rfl w.heap.size 229 1 8 Tryz.underlying227 ji jz0 jz1 jz2 rfl (by omega) rfl hown #[.pointer (some ⟨g, 0, none⟩)] rfl rfl (by simp [Value.oneCell']) Hn.out (by omega) Hsz.out ?_; intro A' c' w2 hown2 hd2 _)
  have hd2 := hd.trans hd2
  have hv : (M.map (blkG GG)).map ptrV ++ (#[Value.pointer (some ⟨g, 0, none⟩)] : Array Value).toList = ((M ++ [(f, k)]).map (blkG GG)).map ptrV := by
   rw [List.map_append, List.map_append, List.map_singleton, List.map_singleton, hT.at_.blk]
  rw [hv] at hown2
  clear hown hd hv
  have hW2 := h.below hd2
  obtain ⟨tw, hI⟩ := hW2.item hT.at_
  obtain ⟨hfile, _, hme, hfl⟩ := hW2.file_of hT.at_
  obtain ⟨hF, hkd, pb, nv, Ap, cp, ev, mv, mev, av, hB, _, _, _, _, _, _, hmo, hmeF, _⟩ := hI
  have hcl := sc_file hW2.files (by have := hW2.few; omega) hW2.p0 (hB.cell 10) hmo
  rw [← hW2.names, Sc.file_v] at hcl
  have HBl := Lib.hid hB
  have Hmx := Lib.hid hme
  have Hfile := Lib.hid hfile
  clear hmo hkd hme hfile hfl hF
  cases hfm : Sc.fileM W x with
  | none =>
   have hs : Sc.stepM W x = .is (-1) (-1) 4 := by unfold Sc.stepM; rw [hfm]
   rw [hs] at HR
   rw [hfm] at hcl
   clear hs hfm hmeF hB
   go_wp2_with fail
   refine hcl.mono ?_
   clear hcl
   rintro e w3 ⟨rfl, hd3⟩
   go_wp2_with fail
   go_ret3
   exact ⟨by rw [HR.out]; rfl, hd2.trans (hd3.mono hd2.size)⟩
  | some f2 =>
   rw [hfm] at hcl
   have hf2 := Sc.fileM_lt hfm
   rw [hW2.names, List.length_map, hW2.fl] at hf2
   go_wp2_with fail
   refine hcl.mono ?_
   clear hcl
   rintro e w3 ⟨rfl, hd3⟩
   have hB3 := hB.below hd3 hB.lt
   have k11 := hB3.cell 11
   simp [itC] at k11
   have n0 : ¬ (f2 : Int) < 0 := by omega
   have n1 : decide ((f2 : Int) < 0) = false := by simp
   have hd3' := hd2.trans (hd3.mono hd2.size)
   have hown3 := own_below hown2 hd3
   have hmeF := hmeF.below hd3
   clear hB hown2 hd3
   have Hf2 := Lib.hid hf2
   clear hf2
   cases hxm : x.me with
   | none =>
    have hs : Sc.stepM W x = .is (-1) (-1) 4 := by unfold Sc.stepM; rw [hfm, hxm]
    rw [hs] at HR
    rw [hxm] at hmeF
    obtain rfl : mev = .pointer none := hmeF
    clear hs hfm hxm hB3
    go_wp2_with fail
    go_ret3
    exact ⟨by rw [HR.out]; rfl, hd3'⟩
   | some mm =>
    rw [hxm] at hmeF
    obtain ⟨gm, rfl, hFm, hBm⟩ := hmeF
    have hW3 := h.below hd3'
    obtain ⟨ab, ao, m, G, rfl, hFa, hla, hFmm, hlm, hcm, hG, hGl, hlook⟩ := hW3.look Hf2.out (t := mm.text) (Hmx.out mm hxm)
    have hs : Sc.stepM W x = Sc.stepF W x f2 mm.text := by unfold Sc.stepM; rw [hfm, hxm]
    rw [hs] at HR
    clear hs
    clear hfm hxm
    go_upto_region 6 with fail
    refine wp_region_G 19 (LookS pg g ab ao f2 m gm (.slice (some ⟨ab, ao, none⟩) W.items.length cd) mm.text (foundV (Sc.itemsAt W f2) G mm.text) (Sc.foundM (Sc.itemsAt W f2) mm.text).isSome) (by kernel_rfl) ?_
    have hS0 : LookS pg g ab ao f2 m gm (.slice (some ⟨ab, ao, none⟩) W.items.length cd) mm.text (foundV (Sc.itemsAt W f2) G mm.text) (Sc.foundM (Sc.itemsAt W f2) mm.text).isSome w3.drew := ⟨hW3.p4, hcm, k11, by have := hBm.cell 0; simpa using this, hlook _ rfl⟩
    have i0 : (0 : Int) ≤ (f2 : Int) := by omega
    have i1 : (f2 : Int) < (W.items.length : Int) := by have := Hf2.out; omega
    clear k11 hlook
    refine wpAnyG_tk 0 hS0 ?_
    simp only [Act.put, List.setIfInBounds_toArray]
    refine wpAnyG_tk 1 hS0 ?_
    simp only [Act.put]
    refine wpAnyG_tk 2 hS0 ?_
    simp only [Act.put]
    refine wpAnyG_tk 3 hS0 ?_
    simp only [Act.put]
    refine wpAnyG_tk 4 hS0 ?_
    simp only [Act.put]
    refine wpAnyG_tk 5 hS0 ?_
    simp only [Act.put]
    refine wpAnyG_tk 6 hS0 ?_
    simp only [Act.put]
    refine wpAnyG_tk 7 hS0 ?_
    simp only [Act.put]
    refine wpAnyG_tk 8 hS0 ?_
    simp only [Act.put]
    refine wpAnyG_tk 9 hS0 ?_
    simp only [Act.put]
    refine wpAnyG_tk 10 hS0 ?_
    simp only [Act.put]
    refine wpAnyG_tk 11 hS0 ?_
    simp only [Act.put]
    refine wpAnyG_tk 12 hS0 ?_
    simp only [Act.put]
    refine wpAnyG_tk 13 hS0 ?_
    simp only [Act.put]
    refine wpAnyG_tk 14 hS0 ?_
    simp only [Act.put]
    refine wpAnyG_tk 15 hS0 ?_
    simp only [Act.put]
    refine wpAnyG_tk 16 hS0 ?_
    simp only [Act.put]
    refine wpAnyG_tk 17 hS0 ?_
    simp only [Act.put]
    refine wpAnyG_on 18 fun C hC => ?_
    go_simp
    refine hC.out _ _ (fun _ => hS0) ?_
    clear hC C
    refine wpAnyG_on 19 fun C hC => ?_
    go_simp
    refine hC.out _ _ (fun h => absurd rfl h) ?_
    clear hC C
    refine wpAnyG_done (by kernel_rfl) ?_ _
    have hd4 := hd3'.drew
    have hown4 : w3.drew.ownsRow w.heap.size 229 1 (.slice A' (M.length + 1) c') (M.length + 1) (((M ++ [(f, k)]).map (blkG GG)).map ptrV) := hown3
    have hB4 := hB3.drew
    clear hS0 hd3' hown3 hB3 hW3 hcm hBm
    generalize w3.drew = w4 at *
    have hW4 := h.below hd4
    have k0 := hB4.cell 0
    simp [itC] at k0
    cases hk : Sc.foundM (Sc.itemsAt W f2) mm.text with
    | none =>
     have hs : Sc.stepF W x f2 mm.text = .is (-1) (-1) 4 := by unfold Sc.stepF; rw [hk]
     rw [hs] at HR
     clear hs hk
     go_wp2_with fail
     go_ret3
     exact ⟨by rw [HR.out]; rfl, hd4⟩
    | some k2 =>
     obtain ⟨y, g2, v, hy, hyn, hIt, hfv⟩ := found_item hW4 hG hk
     obtain ⟨tw2, hI2⟩ := hW4.item hIt
     obtain ⟨pb2, hp2, hp0⟩ := hI2.kind
     have hs : Sc.stepF W x f2 mm.text = if !y.pub && f2 != x.file then .is (-1) (-1) 6 else if y.isDef then .is f2 (v.at_ : Int) 0 else .at_ f2 k2 := by unfold Sc.stepF; rw [hk]; dsimp only; rw [hy]; dsimp only; rw [hyn]; rfl
     rw [hs] at HR
     rw [hfv]
     clear hs hk hfv hG hGl
     obtain ⟨_, _, pb3, nv2, Ap2, cp2, ev2, mv2, mev2, av2, hB2, _, hname2, _⟩ := hI2
     have y3 := hB2.cell 3
     have y5 := hB2.cell 5
     simp [itC] at y3 y5
     have hfz : Hid (x.file = x.file) := rfl
     clear hfz
     go_upto_region 9 with fail
     go_cut [48] (fun v w' => v = .bool (!y.pub && f2 != x.file) ∧ w' = w4)
     case first =>
      cases hpub : y.pub with
      | true =>
       rw [hpub] at y3
       go_wp2_with fail
       go_meet
       exact ⟨by rw [hpub]; rfl, rfl⟩
      | false =>
       rw [hpub] at y3
       have e : ((f2 : Int) != (x.file : Int)) = (f2 != x.file) := by
        rw [Bool.eq_iff_iff]
        simp
        omega
       go_wp2_with fail
       go_meet
       exact ⟨by simp [hpub], rfl⟩
     case rest =>
     obtain ⟨rfl, rfl⟩ := hcut
     cases hc : (!y.pub && f2 != x.file) with
     | true =>
      rw [hc, if_pos rfl] at HR
      clear hc
      go_wp2_with fail
      go_ret3
      exact ⟨by rw [HR.out]; rfl, hd4⟩
     | false =>
      rw [hc, if_neg (by simp)] at HR
      clear hc y3
      have hdf := sc_def hp2 hp0
      rw [kind_beq] at hdf
      rw [hyn] at hname2
      obtain ⟨gv, rfl, _, hBv⟩ := hname2
      go_wp2_with fail
      refine hdf.mono ?_
      clear hdf
      rintro e w5 ⟨rfl, hd5⟩
      have z5 := (hB2.below hd5 hB2.lt).cell 5
      have v1 := (hBv.below hd5 hBv.lt).cell 1
      simp [itC] at z5 v1
      have hown5 := own_below hown4 hd5
      have hd5' := hd4.trans (hd5.mono hd4.size)
      clear hown4 hBv y5 hp2 hp0 hd5
      cases hdd : y.isDef with
      | true =>
       rw [hdd, if_pos rfl] at HR
       clear hown5
       go_wp2_with fail
       go_quiet (fail)
       go_wp2_with fail
       go_ret3
       exact ⟨by rw [HR.out]; rfl, below_drewN hd5' _⟩
      | false =>
       rw [hdd, if_neg (by simp)] at HR
       have hW5 := h.below hd5'
       have hll : (M ++ [(f, k)]).length = M.length + 1 := by rw [List.length_append]; rfl
       have hany := sc_iany (gs := (M ++ [(f, k)]).map (blkG GG)) (A := A') (c := c') (B := w.heap.size) (by rw [List.length_map, hll]; exact hown5) (by rw [List.length_map, hll]; have := HN.out; have := Hmany.out; omega) g2 (fun z hz => by
        have hz : ∃ p, OkP GG p ∧ z = blkG GG p := by
         rcases hz with rfl | hz
         ·exact ⟨_, hIt.okP, hIt.blk.symm⟩
         ·obtain ⟨p, hp, rfl⟩ := List.mem_map.1 hz
          rcases List.mem_append.1 hp with hp | hp
          ·exact ⟨p, hT.ok p hp, rfl⟩
          ·rw [List.mem_singleton] at hp; subst hp; exact ⟨_, hT.at_.okP, rfl⟩
        obtain ⟨p, ⟨G', g', e1, e2⟩, rfl⟩ := hz
        rw [blk_of e1 e2]
        have hl' : W.items[p.1]? = some (W.items[p.1]'(by rw [← hW5.gl]; exact (List.getElem?_eq_some_iff.1 e1).1)) := List.getElem?_eq_getElem _
        have hlen' := (hW5.its _ _ _ hl' e1).1
        have hkk := (List.getElem?_eq_some_iff.1 e2).1
        have hkl : p.2 < (W.items[p.1]'(by rw [← hW5.gl]; exact (List.getElem?_eq_some_iff.1 e1).1)).length := by rw [← hlen']; exact hkk
        exact ((hW5.its _ _ _ hl' e1).2 p.2 _ g' (List.getElem?_eq_getElem hkl) e2).blk)
       rw [List.length_map, hll, ← hIt.blk, any_blk h.nd (fun p hp => by
        rcases List.mem_append.1 hp with hp | hp
        ·exact hT.ok p hp
        ·rw [List.mem_singleton] at hp; subst hp; exact hT.at_.okP) hIt.okP, hIt.blk] at hany
       have hTn := hT.next hIt
       have HR : Hid (R = if (M ++ [(f, k)]).contains (f2, k2) then (-1, -1, 7) else Sc.targetM W n' (M ++ [(f, k)]) (f2, k2) y) := by
        show R = _
        rw [HR.out]
        dsimp only
        rw [hy]
       clear hW5 hIt hy hT hB2 hll hdd z5 v1
       generalize hM : M ++ [(f, k)] = M' at *
       generalize hc : M'.contains (f2, k2) = b at *
       clear hc
       go_wp2_with fail
       refine hany.mono ?_
       clear hany
       rintro e w6 ⟨rfl, hd6⟩
       have hown6 := own_below hown5 hd6
       have hd6' := hd5'.trans (hd6.mono hd5'.size)
       clear hown5 hd6
       cases b with
       | true =>
        rw [if_pos rfl] at HR
        go_wp2_with fail
        go_ret3
        exact ⟨by rw [HR.out]; rfl, hd6'⟩
       | false =>
        rw [if_neg (by simp)] at HR
        have hl6 : Hid (M'.length = M.length + 1) := by show _ = _; rw [← hM, List.length_append]; rfl
        clear hM
        go_wp2_with fail
        go_roundg n'
        case rel => exact ⟨n', f2, k2, y, g2, M', A', c', rfl, by rw [hl6.out], (by first | exact hTn trivial | exact hTn rfl), by rw [hl6.out]; exact hown6, HR, by have := HN.out; have := hl6.out; show _ = _; omega, Nat.le_refl _, hd6'⟩
        case measure => have := Hm.out; omega
end Go.Proofs.YtcjjfeephaddcaaGreatDoor
