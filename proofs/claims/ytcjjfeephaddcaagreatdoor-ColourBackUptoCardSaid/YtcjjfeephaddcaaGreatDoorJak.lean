/-
  JOINED of the texts SF SG SI SH SJ SK
-/
import Derived.Test.YtcjjfeephaddcaaGreatDoorJaj
import Derived.Maps.OwnSet
import Derived.DeepKeys4
set_option linter.all false
namespace Go.Proofs.YtcjjfeephaddcaaGreatDoor
open Go.RowKit
theorem Sc.exprs_take1 (l : List Tr.PT) (i : Nat) (h : i < l.length) : Sc.exprsL (l.take (i + 1)) = if Sc.isExpr l[i] then Sc.exprsL (l.take i) ++ [l[i]] else Sc.exprsL (l.take i) := by
 rw [List.take_succ_eq_append_getElem h, Sc.exprs_app]
 unfold Sc.exprsL
 rw [List.filter_cons, List.filter_nil]
 cases Sc.isExpr l[i] <;> simp
theorem Sc.exprs_take1_le (l : List Tr.PT) : (Sc.exprsL l).length ≤ l.length := List.length_filter_le _ _
def Sc.namesL (l : List Tr.PT) : List (Option (Bs × Nat)) := l.filterMap Sc.nameL
theorem Sc.names_take1 (l : List Tr.PT) (i : Nat) (h : i < l.length) : Sc.namesL (l.take (i + 1)) = Sc.namesL (l.take i) ++ (Sc.nameL l[i]).toList := by
 rw [List.take_succ_eq_append_getElem h]
 unfold Sc.namesL
 rw [List.filterMap_append, List.filterMap_cons, List.filterMap_nil]
 cases Sc.nameL l[i] <;> simp
theorem Sc.names_take1_le (l : List Tr.PT) : (Sc.namesL l).length ≤ l.length := List.length_filterMap_le _ _
def LfF (w : World) (F : Nat → Prop) : Option (Bs × Nat) → Value → Prop
 | none, v => v = .pointer none
 | some x, v => ∃ g, v = .pointer (some ⟨g, 0, none⟩) ∧ F g ∧ Blk w g 173 #[.int .i64 ((3 : Nat) : Int), .string ⟨x.1.toArray⟩, .int .i64 (x.2 : Int)]
def LfsF (w : World) (F : Nat → Prop) : List (Option (Bs × Nat)) → List Value → Prop
 | [], vs => vs = []
 | x :: l, vs => ∃ v vs', vs = v :: vs' ∧ LfF w F x v ∧ LfsF w F l vs'
theorem LfF.below {w w' : World} {F : Nat → Prop} {x : Option (Bs × Nat)} {v : Value} (h : LfF w F x v) (hd : Below w.heap.size w w') : LfF w' F x v := by
 cases x with
 | none => exact h
 | some x => obtain ⟨g, e, hF, hB⟩ := h; exact ⟨g, e, hF, hB.below hd hB.lt⟩
theorem LfsF.below {w w' : World} {F : Nat → Prop} (hd : Below w.heap.size w w') : ∀ {l : List (Option (Bs × Nat))} {vs : List Value}, LfsF w F l vs → LfsF w' F l vs
 | [], _, h => h
 | x :: l, vs, h => by
  obtain ⟨v, vs', e, hx, hl⟩ := h
  exact ⟨v, vs', e, hx.below hd, LfsF.below hd hl⟩
theorem LfsF.at_ {w : World} {F : Nat → Prop} : ∀ {l : List (Option (Bs × Nat))} {vs : List Value} {i : Nat}, LfsF w F l vs → ∀ (h : i < l.length), ∃ v, vs[i]? = some v ∧ LfF w F l[i] v
 | [], _, _, _, h => absurd h (by simp)
 | p :: l, vs, 0, hp, _ => by
  obtain ⟨v, vs', rfl, h, _⟩ := hp
  exact ⟨v, rfl, h⟩
 | p :: l, vs, i + 1, hp, h => by
  obtain ⟨v, vs', rfl, _, hl⟩ := hp
  have := LfsF.at_ (i := i) hl (by simpa using h)
  simpa using this
def NamesE (l : List (Option (Bs × Nat))) (w : World) (F : Nat → Prop) (e : Ending) (w' : World) : Prop :=
 ∃ A c vs, e = .returned (.slice A l.length c) ∧ w'.ownsRow w.heap.size 171 1 (.slice A l.length c) l.length vs ∧ LfsF w' F l vs ∧ Below w.heap.size w w'
theorem LfsF.snoc {w : World} {F : Nat → Prop} {x : Option (Bs × Nat)} {v : Value} (hx : LfF w F x v) : ∀ {l : List (Option (Bs × Nat))} {vs : List Value}, LfsF w F l vs → LfsF w F (l ++ [x]) (vs ++ [v])
 | [], vs, h => by have : vs = [] := h; subst this; exact ⟨v, [], rfl, hx, rfl⟩
 | y :: l, vs, h => by
  obtain ⟨u, vs', rfl, hy, hl⟩ := h
  exact ⟨u, vs' ++ [v], rfl, hy, LfsF.snoc hx hl⟩
set_option maxHeartbeats 8000000 in
set_option maxRecDepth 100000 in
theorem exprs_walk {w : World} {F : Nat → Prop} {q k a : Nat} {l : List Tr.PT} (hp : PtF w F (.branch k a l) (.iface 114 (.pointer (some ⟨q, 0, none⟩)))) (hl : l.length ≤ 1000000000) :
  Calls Tryz.prog 142 #[.pointer (some ⟨q, 0, none⟩)] w (PartsE (Sc.exprsL l) w F) := by
 obtain ⟨i0, ji, jz0, jz1, jz2⟩ := info_parts bd_part
 obtain ⟨q', e, _, A, c, vs, hB, hc, hrow, hps⟩ := hp
 injection e with _ e
 injection e with e
 injection e with e
 injection e with e
 subst e
 have b1 := hB.cell 1
 simp at b1
 have Hl := Lib.hid hl
 clear hl hc
 go_enter Tryz.func142, Tryz.ntmps142
 go_wp2_with fail
 go_loopg [3, 13] l.length (fun m v u wr => ∃ (i : Nat) (Ao : Option Addr) (co : Nat) (ovs : List Value), v = .slice Ao (Sc.exprsL (l.take i)).length co ∧ u = .int .i64 (i : Int) ∧ i ≤ l.length ∧ l.length - i ≤ m ∧ wr.ownsRow w.heap.size 122 1 (.slice Ao (Sc.exprsL (l.take i)).length co) (Sc.exprsL (l.take i)).length ovs ∧ PtsF w F (Sc.exprsL (l.take i)) ovs ∧ Below w.heap.size w wr)
 case atStart => exact ⟨0, none, 0, [], rfl, rfl, Nat.zero_le _, Nat.le_refl _, World.ownsRow_nil _ _ _ _, rfl, Below.refl _ _⟩
 case round =>
  clear b1
  obtain ⟨i, Ao, co, ovs, rfl, rfl, hi, hm, hown, hos, hd⟩ := hrel
  by_cases hlt : i < l.length
  ·have ii0 : (0 : Int) ≤ (i : Int) := by omega
   have ii1 : (i : Int) < (l.length : Int) := by omega
   obtain ⟨v, hv, hpv⟩ := hps.at_ hlt
   obtain ⟨br, o, rfl, hFb, hbl, hcc⟩ := hrow (by have := hps.len; omega)
   have hcell := hcc _ _ hv
   have q0 := (hd.cell (p := ⟨br, o + i, none⟩) hbl).trans hcell
   have HT := Lib.hid (Sc.exprs_take1 l i hlt)
   have Hn : Hid ((Sc.exprsL (l.take i)).length ≤ 1000000000) := by
    have h1 := Sc.exprs_take1_le (l.take i)
    rw [List.length_take] at h1
    have := Hl.out
    show _ ≤ _
    omega
   have c1 : IntKind.i64.wrap ((i : Int) + 1) = (i : Int) + 1 := IntWalk.i64_in _ (by have := Hl.out; omega)
   generalize l[i] = p at *
   generalize hst : Sc.exprsL (l.take i) = st at *
   have Hlt := Lib.hid hlt
   have Hm := Lib.hid hm
   have hsz := hd.size
   have Hsz := Lib.hid hsz
   clear hst hv hcc hcell hbl hlt hm hi hFb hsz
   cases p with
   | leaf k t a =>
    obtain ⟨g, rfl, _, hgB⟩ := hpv
    have has := fun w => as_leaf_gap ⟨g, 0, none⟩ w
    have has2 := fun w => as_leaf_branch ⟨g, 0, none⟩ w
    clear hgB
    have HT : Hid (Sc.exprsL (l.take (i + 1)) = st) := HT
    go_wp2_with fail
    go_roundg (l.length - (i + 1))
    case rel => exact ⟨i + 1, Ao, co, ovs, by rw [HT.out], by go_num, by have := Hlt.out; omega, Nat.le_refl _, by rw [HT.out]; exact hown, by rw [HT.out]; exact hos, hd⟩
    case measure => have := Hlt.out; have := Hm.out; omega
   | gap t a d =>
    have hpp := hpv
    obtain ⟨g, rfl, _, hgB⟩ := hpv
    have k0 := (hgB.below hd hgB.lt).cell 0
    simp at k0
    have has := fun w => as_gap_gap ⟨g, 0, none⟩ w
    clear hgB
    have HT : Hid (Sc.exprsL (l.take (i + 1)) = if t == Tr.sExpr then st ++ [.gap t a d] else st) := HT
    by_cases ht : t = Tr.sExpr
    ·subst ht
     have HT : Hid (Sc.exprsL (l.take (i + 1)) = st ++ [.gap Tr.sExpr a d]) := by show _ = _; rw [HT.out]; simp
     unfold Tr.sExpr at k0
     go_wp2_with (at_builtin; refine wpList_push _ rfl _ _ 119 rfl w.heap.size 122 1 16 Tryz.underlying119 ji jz0 jz1 jz2 rfl (by omega) rfl hown #[.iface 176 (.pointer (some ⟨g, 0, none⟩))] rfl rfl (by simp [Value.oneCell']) Hn.out (by omega) Hsz.out ?_; intro A' c' w2 hown2 hd2 _)
     have hos2 := hos.snoc hpp
     go_roundg (l.length - (i + 1))
     case rel => exact ⟨i + 1, A', c', _, by rw [HT.out, List.length_append]; rfl, by go_num, by have := Hlt.out; omega, Nat.le_refl _, by rw [HT.out, List.length_append]; exact hown2, by rw [HT.out]; exact hos2, hd.trans hd2⟩
     case measure => have := Hlt.out; have := Hm.out; omega
    ·have HT : Hid (Sc.exprsL (l.take (i + 1)) = st) := by show _ = _; rw [HT.out]; simp [ht]
     have nt : (t == Tr.sExpr) = false := by simp [ht]
     unfold Tr.sExpr at nt
     clear ht hpp
     go_wp2_with fail
     go_roundg (l.length - (i + 1))
     case rel => exact ⟨i + 1, Ao, co, ovs, by rw [HT.out], by go_num, by have := Hlt.out; omega, Nat.le_refl _, by rw [HT.out]; exact hown, by rw [HT.out]; exact hos, hd⟩
     case measure => have := Hlt.out; have := Hm.out; omega
   | branch k a m =>
    have hpp := hpv
    obtain ⟨g, rfl, _, Am, cm, vm, hgB, _⟩ := hpv
    have k0 := (hgB.below hd hgB.lt).cell 0
    simp at k0
    have has := fun w => as_branch_gap ⟨g, 0, none⟩ w
    have has2 := fun w => as_branch_branch ⟨g, 0, none⟩ w
    clear hgB
    have HT : Hid (Sc.exprsL (l.take (i + 1)) = if k != 6 && k != 12 then st ++ [.branch k a m] else st) := HT
    by_cases h6 : k = 6
    ·subst h6
     have HT : Hid (Sc.exprsL (l.take (i + 1)) = st) := HT
     clear hpp
     go_wp2_with fail
     go_roundg (l.length - (i + 1))
     case rel => exact ⟨i + 1, Ao, co, ovs, by rw [HT.out], by go_num, by have := Hlt.out; omega, Nat.le_refl _, by rw [HT.out]; exact hown, by rw [HT.out]; exact hos, hd⟩
     case measure => have := Hlt.out; have := Hm.out; omega
    by_cases h12 : k = 12
    ·subst h12
     have HT : Hid (Sc.exprsL (l.take (i + 1)) = st) := HT
     clear hpp
     go_wp2_with fail
     go_roundg (l.length - (i + 1))
     case rel => exact ⟨i + 1, Ao, co, ovs, by rw [HT.out], by go_num, by have := Hlt.out; omega, Nat.le_refl _, by rw [HT.out]; exact hown, by rw [HT.out]; exact hos, hd⟩
     case measure => have := Hlt.out; have := Hm.out; omega
    have HT : Hid (Sc.exprsL (l.take (i + 1)) = st ++ [.branch k a m]) := by show _ = _; rw [HT.out, if_pos (by simp [h6, h12])]
    have n6 : ((k : Int) != 6) = true := by simp; omega
    have n12 : ((k : Int) != 12) = true := by simp; omega
    clear h6 h12
    go_wp2_with (at_builtin; refine wpList_push _ rfl _ _ 119 rfl w.heap.size 122 1 16 Tryz.underlying119 ji jz0 jz1 jz2 rfl (by omega) rfl hown #[.iface 114 (.pointer (some ⟨g, 0, none⟩))] rfl rfl (by simp [Value.oneCell']) Hn.out (by omega) Hsz.out ?_; intro A' c' w2 hown2 hd2 _)
    have hos2 := hos.snoc hpp
    go_roundg (l.length - (i + 1))
    case rel => exact ⟨i + 1, A', c', _, by rw [HT.out, List.length_append]; rfl, by go_num, by have := Hlt.out; omega, Nat.le_refl _, by rw [HT.out, List.length_append]; exact hown2, by rw [HT.out]; exact hos2, hd.trans hd2⟩
    case measure => have := Hlt.out; have := Hm.out; omega
  ·obtain rfl : i = l.length := by omega
   have i1 : ¬ (l.length : Int) < (l.length : Int) := by omega
   have i2 : decide (l.length < l.length) = false := by simp
   rw [List.take_length] at hown hos ⊢
   generalize hst : Sc.exprsL l = st at *
   clear hlt hi hm
   go_wp2_with fail
   go_ret
   exact ⟨Ao, co, ovs, rfl, hown, hos.below hd, hd⟩
set_option maxHeartbeats 8000000 in
set_option maxRecDepth 100000 in
theorem names_walk {w : World} {F : Nat → Prop} {q k a : Nat} {l : List Tr.PT} (hp : PtF w F (.branch k a l) (.iface 114 (.pointer (some ⟨q, 0, none⟩)))) (hl : l.length ≤ 1000000000) :
  Calls Tryz.prog 165 #[.pointer (some ⟨q, 0, none⟩)] w (NamesE (Sc.namesL l) w F) := by
 obtain ⟨i0, ji, jz0, jz1, jz2⟩ := info_parts bd_leafp
 obtain ⟨q', e, _, A, c, vs, hB, hc, hrow, hps⟩ := hp
 injection e with _ e
 injection e with e
 injection e with e
 injection e with e
 subst e
 have b1 := hB.cell 1
 simp at b1
 have Hl := Lib.hid hl
 clear hl hc
 go_enter Tryz.func165, Tryz.ntmps165
 go_wp2_with fail
 go_loopg [3, 13] l.length (fun m v u wr => ∃ (i : Nat) (Ao : Option Addr) (co : Nat) (ovs : List Value), v = .slice Ao (Sc.namesL (l.take i)).length co ∧ u = .int .i64 (i : Int) ∧ i ≤ l.length ∧ l.length - i ≤ m ∧ wr.ownsRow w.heap.size 171 1 (.slice Ao (Sc.namesL (l.take i)).length co) (Sc.namesL (l.take i)).length ovs ∧ LfsF w F (Sc.namesL (l.take i)) ovs ∧ Below w.heap.size w wr)
 case atStart => exact ⟨0, none, 0, [], rfl, rfl, Nat.zero_le _, Nat.le_refl _, World.ownsRow_nil _ _ _ _, rfl, Below.refl _ _⟩
 case round =>
  clear b1
  obtain ⟨i, Ao, co, ovs, rfl, rfl, hi, hm, hown, hos, hd⟩ := hrel
  by_cases hlt : i < l.length
  ·have ii0 : (0 : Int) ≤ (i : Int) := by omega
   have ii1 : (i : Int) < (l.length : Int) := by omega
   obtain ⟨v, hv, hpv⟩ := hps.at_ hlt
   obtain ⟨br, o, rfl, hFb, hbl, hcc⟩ := hrow (by have := hps.len; omega)
   have hcell := hcc _ _ hv
   have q0 := (hd.cell (p := ⟨br, o + i, none⟩) hbl).trans hcell
   have HT := Lib.hid (Sc.names_take1 l i hlt)
   have Hn : Hid ((Sc.namesL (l.take i)).length ≤ 1000000000) := by
    have h1 := Sc.names_take1_le (l.take i)
    rw [List.length_take] at h1
    have := Hl.out
    show _ ≤ _
    omega
   have c1 : IntKind.i64.wrap ((i : Int) + 1) = (i : Int) + 1 := IntWalk.i64_in _ (by have := Hl.out; omega)
   generalize l[i] = p at *
   generalize hst : Sc.namesL (l.take i) = st at *
   have Hlt := Lib.hid hlt
   have Hm := Lib.hid hm
   have hsz := hd.size
   have Hsz := Lib.hid hsz
   clear hst hv hcc hcell hbl hlt hm hi hFb hsz
   cases p with
   | leaf k t a =>
    obtain ⟨g, rfl, hFg, hgB⟩ := hpv
    have k0 := (hgB.below hd hgB.lt).cell 0
    simp at k0
    have has := fun w => as_leaf_gap ⟨g, 0, none⟩ w
    have has2 := fun w => as_leaf_leaf ⟨g, 0, none⟩ w
    have HT : Hid (Sc.namesL (l.take (i + 1)) = st ++ (Sc.nameL (.leaf k t a)).toList) := HT
    by_cases h3 : k = 3
    ·subst h3
     have HT : Hid (Sc.namesL (l.take (i + 1)) = st ++ [some (t, a)]) := by show _ = _; rw [HT.out]; rfl
     have hpp : LfF w F (some (t, a)) (.pointer (some ⟨g, 0, none⟩)) := ⟨g, rfl, hFg, hgB⟩
     clear hgB
     go_wp2_with (at_builtin; refine wpList_push _ rfl _ _ 275 rfl w.heap.size 171 1 8 Tryz.underlying275 ji jz0 jz1 jz2 rfl (by omega) rfl hown #[.pointer (some ⟨g, 0, none⟩)] rfl rfl (by simp [Value.oneCell']) Hn.out (by omega) Hsz.out ?_; intro A' c' w2 hown2 hd2 _)
     have hos2 := hos.snoc hpp
     go_roundg (l.length - (i + 1))
     case rel => exact ⟨i + 1, A', c', _, by rw [HT.out, List.length_append]; rfl, by go_num, by have := Hlt.out; omega, Nat.le_refl _, by rw [HT.out, List.length_append]; exact hown2, by rw [HT.out]; exact hos2, hd.trans hd2⟩
     case measure => have := Hlt.out; have := Hm.out; omega
    ·have HT : Hid (Sc.namesL (l.take (i + 1)) = st) := by show _ = _; rw [HT.out]; simp [Sc.nameL, h3]
     have n3 : ((k : Int) == 3) = false := by simp; omega
     clear h3 hgB
     go_wp2_with fail
     go_roundg (l.length - (i + 1))
     case rel => exact ⟨i + 1, Ao, co, ovs, by rw [HT.out], by go_num, by have := Hlt.out; omega, Nat.le_refl _, by rw [HT.out]; exact hown, by rw [HT.out]; exact hos, hd⟩
     case measure => have := Hlt.out; have := Hm.out; omega
   | gap t a d =>
    obtain ⟨g, rfl, _, hgB⟩ := hpv
    have k0 := (hgB.below hd hgB.lt).cell 0
    simp at k0
    have has := fun w => as_gap_gap ⟨g, 0, none⟩ w
    clear hgB
    have HT : Hid (Sc.namesL (l.take (i + 1)) = st ++ (Sc.nameL (.gap t a d)).toList) := HT
    by_cases ht : t = Tr.sName
    ·subst ht
     have HT : Hid (Sc.namesL (l.take (i + 1)) = st ++ [none]) := by show _ = _; rw [HT.out]; simp [Sc.nameL]
     unfold Tr.sName at k0
     have hpp : LfF w F none (.pointer none) := rfl
     go_wp2_with (at_builtin; refine wpList_push _ rfl _ _ 275 rfl w.heap.size 171 1 8 Tryz.underlying275 ji jz0 jz1 jz2 rfl (by omega) rfl hown #[.pointer none] rfl rfl (by simp [Value.oneCell']) Hn.out (by omega) Hsz.out ?_; intro A' c' w2 hown2 hd2 _)
     have hos2 := hos.snoc hpp
     go_roundg (l.length - (i + 1))
     case rel => exact ⟨i + 1, A', c', _, by rw [HT.out, List.length_append]; rfl, by go_num, by have := Hlt.out; omega, Nat.le_refl _, by rw [HT.out, List.length_append]; exact hown2, by rw [HT.out]; exact hos2, hd.trans hd2⟩
     case measure => have := Hlt.out; have := Hm.out; omega
    ·have HT : Hid (Sc.namesL (l.take (i + 1)) = st) := by show _ = _; rw [HT.out]; simp [Sc.nameL, ht]
     have nt : (t == Tr.sName) = false := by simp [ht]
     unfold Tr.sName at nt
     clear ht
     go_wp2_with fail
     go_roundg (l.length - (i + 1))
     case rel => exact ⟨i + 1, Ao, co, ovs, by rw [HT.out], by go_num, by have := Hlt.out; omega, Nat.le_refl _, by rw [HT.out]; exact hown, by rw [HT.out]; exact hos, hd⟩
     case measure => have := Hlt.out; have := Hm.out; omega
   | branch k a m =>
    obtain ⟨g, rfl, _, Am, cm, vm, hgB, _⟩ := hpv
    have has := fun w => as_branch_gap ⟨g, 0, none⟩ w
    have has2 := fun w => as_branch_leaf ⟨g, 0, none⟩ w
    clear hgB
    have HT : Hid (Sc.namesL (l.take (i + 1)) = st) := by show _ = _; rw [HT.out]; simp [Sc.nameL]
    go_wp2_with fail
    go_roundg (l.length - (i + 1))
    case rel => exact ⟨i + 1, Ao, co, ovs, by rw [HT.out], by go_num, by have := Hlt.out; omega, Nat.le_refl _, by rw [HT.out]; exact hown, by rw [HT.out]; exact hos, hd⟩
    case measure => have := Hlt.out; have := Hm.out; omega
  ·obtain rfl : i = l.length := by omega
   have i1 : ¬ (l.length : Int) < (l.length : Int) := by omega
   have i2 : decide (l.length < l.length) = false := by simp
   rw [List.take_length] at hown hos ⊢
   generalize hst : Sc.namesL l = st at *
   clear hlt hi hm
   go_wp2_with fail
   go_ret
   exact ⟨Ao, co, ovs, rfl, hown, hos.below hd, hd⟩
theorem as2_leaf (a : Addr) (w : World) : (Instr.typeAssert (.iface 171 (.pointer (some a))) 122 171 false).run Tryz.prog w = .ok (.pointer (some a)) w := by kernel_rfl
theorem as2_branch (a : Addr) (w : World) : (Instr.typeAssert (.iface 114 (.pointer (some a))) 122 114 false).run Tryz.prog w = .ok (.pointer (some a)) w := by kernel_rfl
theorem own_at {w : World} {B : Nat} {e : TypeId} {A : Option Addr} {c n : Nat} {vs : List Value} (h : w.ownsRow B e 1 (.slice A n c) n vs) (hn : 0 < n) : ∃ g, A = some ⟨g, 0, none⟩ ∧ ∀ j u, vs[j]? = some u → w.cell? ⟨g, j, none⟩ = some u := by
 obtain ⟨_, h2⟩ := Rd.of_own h
 obtain ⟨b, o, rfl, _, hc⟩ := h2 hn
 obtain ⟨g, cap, hv, _, _⟩ := h.form hn
 injection hv with hv
 injection hv with hv
 injection hv with h1 h2
 subst h1 h2
 exact ⟨b, rfl, fun j u hu => by have := hc j u hu; rwa [Nat.zero_add] at this⟩
def TokenE (t : Bs) (a : Nat) (w : World) (F : Nat → Prop) (e : Ending) (w' : World) : Prop := ∃ g k, e = .returned (.pointer (some ⟨g, 0, none⟩)) ∧ F g ∧ Blk w' g 173 #[.int .i64 ((k : Nat) : Int), .string ⟨t.toArray⟩, .int .i64 (a : Int)] ∧ Below w.heap.size w w'
set_option maxHeartbeats 4000000 in
set_option maxRecDepth 100000 in
theorem token_walk {w : World} {F : Nat → Prop} {q k a : Nat} {l : List Tr.PT} (hp : PtF w F (.branch k a l) (.iface 114 (.pointer (some ⟨q, 0, none⟩)))) (hl : l.length ≤ 1000000000) {x : Tr.PT} {r : List Tr.PT} (hx : Sc.senseL l = x :: r) (hx0 : Sc.isLeaf x = true) :
  Calls Tryz.prog 217 #[.pointer (some ⟨q, 0, none⟩)] w (TokenE (Sc.leafOf x).1 (Sc.leafOf x).2 w F) := by
 have hs := sense_walk hp hl
 rw [hx] at hs
 clear hx hp
 cases x with
 | gap t a d => cases hx0
 | branch k a l => cases hx0
 | leaf k t a =>
 go_enter Tryz.func217, Tryz.ntmps217
 go_wp2_with fail
 refine hs.mono ?_
 clear hs
 rintro e w1 ⟨A, c, vs, rfl, hown, hps, hd⟩
 obtain ⟨v, vs', rfl, hp, _⟩ := hps
 obtain ⟨g, rfl, hF, hB⟩ := hp
 obtain ⟨r0, rfl, hc⟩ := own_at hown (by simp)
 have q0 := hc 0 _ rfl
 have has := fun w => as2_leaf ⟨g, 0, none⟩ w
 clear hc hown
 go_wp2_with fail
 go_ret
 exact ⟨g, k, rfl, hF, hB, hd⟩
def BranE (p : Tr.PT) (w : World) (F : Nat → Prop) (e : Ending) (w' : World) : Prop := ∃ g, e = .returned (.pointer (some ⟨g, 0, none⟩)) ∧ PtF w' F p (.iface 114 (.pointer (some ⟨g, 0, none⟩))) ∧ Below w.heap.size w w'
set_option maxHeartbeats 4000000 in
set_option maxRecDepth 100000 in
theorem tparams_walk {w : World} {F : Nat → Prop} {q k a : Nat} {l : List Tr.PT} (hp : PtF w F (.branch k a l) (.iface 114 (.pointer (some ⟨q, 0, none⟩)))) (hl : l.length ≤ 1000000000) {x y : Tr.PT} {r : List Tr.PT} (hx : Sc.senseL l = x :: y :: r) (hy : Sc.isBr y = true) :
  Calls Tryz.prog 215 #[.pointer (some ⟨q, 0, none⟩)] w (BranE y w F) := by
 have hs := sense_walk hp hl
 rw [hx] at hs
 clear hx hp
 cases y with
 | gap t a d => cases hy
 | leaf k t a => cases hy
 | branch k a l =>
 go_enter Tryz.func215, Tryz.ntmps215
 go_wp2_with fail
 refine hs.mono ?_
 clear hs
 rintro e w1 ⟨A, c, vs, rfl, hown, hps, hd⟩
 obtain ⟨v, vs', rfl, _, v2, vs2, rfl, hp, _⟩ := hps
 have hp0 := hp
 obtain ⟨g, rfl, _⟩ := hp0
 obtain ⟨r0, rfl, hc⟩ := own_at hown (by simp)
 have q0 := hc 1 _ rfl
 have has := fun w => as2_branch ⟨g, 0, none⟩ w
 have i0 : (1 : Int) < ((r.length + 1 + 1 : Nat) : Int) := by omega
 have i1 : 1 < r.length + 1 + 1 := by omega
 simp only [List.length_cons]
 clear hc hown
 go_wp2_with fail
 go_ret
 exact ⟨g, rfl, hp, hd⟩
set_option maxHeartbeats 4000000 in
set_option maxRecDepth 100000 in
theorem args_walk {w : World} {F : Nat → Prop} {q k a : Nat} {l : List Tr.PT} (hp : PtF w F (.branch k a l) (.iface 114 (.pointer (some ⟨q, 0, none⟩)))) (hl : l.length ≤ 1000000000) {x : Tr.PT} {k2 a2 : Nat} {m : List Tr.PT} {r : List Tr.PT} (hx : Sc.senseL l = x :: .branch k2 a2 m :: r) (hm : m.length ≤ 1000000000) :
  Calls Tryz.prog 144 #[.pointer (some ⟨q, 0, none⟩)] w (PartsE (Sc.exprsL m) w F) := by
 have hs := sense_walk hp hl
 rw [hx] at hs
 clear hx hp
 go_enter Tryz.func144, Tryz.ntmps144
 go_wp2_with fail
 refine hs.mono ?_
 clear hs
 rintro e w1 ⟨A, c, vs, rfl, hown, hps, hd⟩
 obtain ⟨v, vs', rfl, _, v2, vs2, rfl, hp, _⟩ := hps
 have hp0 := hp
 obtain ⟨g, rfl, _⟩ := hp0
 obtain ⟨r0, rfl, hc⟩ := own_at hown (by simp)
 have q0 := hc 1 _ rfl
 have has := fun w => as2_branch ⟨g, 0, none⟩ w
 have hcl := exprs_walk hp hm
 have hsz := hd.size
 have Hsz := Lib.hid hsz
 have i0 : (1 : Int) < ((r.length + 1 + 1 : Nat) : Int) := by omega
 have i1 : 1 < r.length + 1 + 1 := by omega
 simp only [List.length_cons]
 clear hc hown hsz
 go_wp2_with fail
 refine hcl.mono ?_
 clear hcl q0
 rintro e w2 ⟨A2, c2, vs2, rfl, hown2, hps2, hd2⟩
 go_wp2_with fail
 go_ret
 exact ⟨A2, c2, vs2, rfl, own_mono hown2 Hsz.out, hps2, hd.trans (hd2.mono Hsz.out)⟩
def LetE (p : Tr.PT) (w : World) (F : Nat → Prop) (e : Ending) (w' : World) : Prop :=
 Below w.heap.size w w' ∧ match p with
  | .leaf k t a => ∃ g, e = .returned (.pointer (some ⟨g, 0, none⟩)) ∧ F g ∧ Blk w' g 173 #[.int .i64 ((k : Nat) : Int), .string ⟨t.toArray⟩, .int .i64 (a : Int)]
  | _ => e = .returned (.pointer none)
set_option maxHeartbeats 4000000 in
set_option maxRecDepth 100000 in
theorem let_walk {w : World} {F : Nat → Prop} {q k a : Nat} {l : List Tr.PT} (hp : PtF w F (.branch k a l) (.iface 114 (.pointer (some ⟨q, 0, none⟩)))) (hl : l.length ≤ 1000000000) {x y : Tr.PT} {r : List Tr.PT} (hx : Sc.senseL l = x :: y :: r) :
  Calls Tryz.prog 213 #[.pointer (some ⟨q, 0, none⟩)] w (LetE y w F) := by
 have hs := sense_walk hp hl
 rw [hx] at hs
 clear hx hp
 go_enter Tryz.func213, Tryz.ntmps213
 go_wp2_with fail
 refine hs.mono ?_
 clear hs
 rintro e w1 ⟨A, c, vs, rfl, hown, hps, hd⟩
 obtain ⟨v, vs', rfl, _, v2, vs2, rfl, hp, _⟩ := hps
 obtain ⟨r0, rfl, hc⟩ := own_at hown (by simp)
 have q0 := hc 1 _ rfl
 have i0 : (1 : Int) < ((r.length + 1 + 1 : Nat) : Int) := by omega
 have i1 : 1 < r.length + 1 + 1 := by omega
 simp only [List.length_cons]
 clear hc hown
 cases y with
 | leaf k t a =>
  obtain ⟨g, rfl, hF, hB⟩ := hp
  have has := fun w => as_leaf_leaf ⟨g, 0, none⟩ w
  go_wp2_with fail
  go_ret
  exact ⟨hd, g, rfl, hF, hB⟩
 | gap t a d =>
  obtain ⟨g, rfl, hF, hB⟩ := hp
  have has := fun w => as_gap_leaf ⟨g, 0, none⟩ w
  clear hB
  go_wp2_with fail
  go_ret
  exact ⟨hd, rfl⟩
 | branch k a l =>
  obtain ⟨g, rfl, hF, hB⟩ := hp
  have has := fun w => as_branch_leaf ⟨g, 0, none⟩ w
  clear hB
  go_wp2_with fail
  go_ret
  exact ⟨hd, rfl⟩
def WdF (w : World) (F : Nat → Prop) : Option Sc.Wd → Value → Prop
 | none, v => v = .pointer none
 | some x, v => ∃ g, v = .pointer (some ⟨g, 0, none⟩) ∧ F g ∧ Blk w g 237 #[.string ⟨x.text.toArray⟩, .int .i64 (x.at_ : Int)]
def WdsF (w : World) (F : Nat → Prop) : List (Option Sc.Wd) → List Value → Prop
 | [], vs => vs = []
 | x :: l, vs => ∃ v vs', vs = v :: vs' ∧ WdF w F x v ∧ WdsF w F l vs'
section
variable {w w' : World} {F F' : Nat → Prop}
theorem WdF.keep (hk : ∀ b, F b → b < w.heap.size → w'.heap[b]? = w.heap[b]? ∧ F' b) {x : Option Sc.Wd} {v : Value} (h : WdF w F x v) : WdF w' F' x v := by
 cases x with
 | none => exact h
 | some x =>
  obtain ⟨g, e, hF, hB⟩ := h
  have := hk g hF hB.lt
  exact ⟨g, e, this.2, this.1.trans hB⟩
theorem WdF.below {x : Option Sc.Wd} {v : Value} (h : WdF w F x v) (hd : Below w.heap.size w w') : WdF w' F x v := h.keep fun b hF hl => ⟨hd.block b hl, hF⟩
theorem WdF.ptr {x : Option Sc.Wd} {v : Value} (h : WdF w F x v) : ∃ p, v = .pointer p := by
 cases x with
 | none => exact ⟨none, h⟩
 | some x => obtain ⟨g, e, _⟩ := h; exact ⟨_, e⟩
theorem WdsF.keep (hk : ∀ b, F b → b < w.heap.size → w'.heap[b]? = w.heap[b]? ∧ F' b) : ∀ {l : List (Option Sc.Wd)} {vs : List Value}, WdsF w F l vs → WdsF w' F' l vs
 | [], _, h => h
 | x :: l, vs, h => by
  obtain ⟨v, vs', e, hx, hl⟩ := h
  exact ⟨v, vs', e, hx.keep hk, WdsF.keep hk hl⟩
theorem WdsF.below {l : List (Option Sc.Wd)} {vs : List Value} (h : WdsF w F l vs) (hd : Below w.heap.size w w') : WdsF w' F l vs := h.keep fun b hF hl => ⟨hd.block b hl, hF⟩
theorem WdsF.at_ : ∀ {l : List (Option Sc.Wd)} {vs : List Value} {i : Nat}, WdsF w F l vs → ∀ (h : i < l.length), ∃ v, vs[i]? = some v ∧ WdF w F l[i] v
 | [], _, _, _, h => absurd h (by simp)
 | p :: l, vs, 0, hp, _ => by
  obtain ⟨v, vs', rfl, h, _⟩ := hp
  exact ⟨v, rfl, h⟩
 | p :: l, vs, i + 1, hp, h => by
  obtain ⟨v, vs', rfl, _, hl⟩ := hp
  have := WdsF.at_ (i := i) hl (by simpa using h)
  simpa using this
theorem WdsF.snoc {x : Option Sc.Wd} {v : Value} (hx : WdF w F x v) : ∀ {l : List (Option Sc.Wd)} {vs : List Value}, WdsF w F l vs → WdsF w F (l ++ [x]) (vs ++ [v])
 | [], vs, h => by have : vs = [] := h; subst this; exact ⟨v, [], rfl, hx, rfl⟩
 | y :: l, vs, h => by
  obtain ⟨u, vs', rfl, hy, hl⟩ := h
  exact ⟨u, vs' ++ [v], rfl, hy, WdsF.snoc hx hl⟩
theorem WdsF.len : ∀ {l : List (Option Sc.Wd)} {vs : List Value}, WdsF w F l vs → vs.length = l.length
 | [], vs, h => by have : vs = [] := h; subst this; rfl
 | p :: l, vs, h => by
  obtain ⟨v, vs', rfl, _, hl⟩ := h
  rw [List.length_cons, List.length_cons, WdsF.len hl]
end
def WordE (x : Option Sc.Wd) (w : World) (e : Ending) (w' : World) : Prop := ∃ u, e = .returned u ∧ WdF w' (fun b => w.heap.size ≤ b) x u ∧ Below w.heap.size w w'
set_option maxHeartbeats 4000000 in
set_option maxRecDepth 100000 in
theorem sc_word {w : World} {F : Nat → Prop} {p : Tr.PT} {v : Value} {kb b : Nat} (hp : PtF w F p v) (hk : w.cell? ⟨kb, 1, none⟩ = some (.int .i64 (b : Int))) (hl : ∀ k t a, p = .leaf k t a → b + a ≤ 1000000000) :
  Calls Tryz.prog 164 #[v, .pointer (some ⟨kb, 0, none⟩)] w (WordE (Sc.wordOf b p) w) := by
 cases p with
 | leaf k t a =>
  obtain ⟨g, rfl, hF, hB⟩ := hp
  have has := fun w => as_leaf_leaf ⟨g, 0, none⟩ w
  have b1 := hB.cell 1
  have b2 := hB.cell 2
  simp at b1 b2
  have c1 : IntKind.i64.wrap ((b : Int) + (a : Int)) = (b : Int) + (a : Int) := IntWalk.i64_in _ (by have := hl k t a rfl; omega)
  have HP : Hid (Sc.wordOf b (.leaf k t a) = some ⟨t, b + a⟩) := rfl
  have hnew : Blk (w.drew.alloc (.cells #[.string ⟨t.toArray⟩, .int .i64 ((b : Int) + (a : Int))] 237)) w.heap.size 237 #[.string ⟨t.toArray⟩, .int .i64 ((b : Int) + (a : Int))] := Blk.new w.drew _ _
  have hd : Below w.heap.size w (w.drew.alloc (.cells #[.string ⟨t.toArray⟩, .int .i64 ((b : Int) + (a : Int))] 237)) := (Below.refl _ _).drew.alloc (Nat.le_refl _) _
  clear hB hl
  go_enter Tryz.func164, Tryz.ntmps164
  go_wp2_with fail
  go_still_tail 12, (by kernel_rfl)
  go_wp2_with fail
  go_ret
  rw [HP.out]
  exact ⟨_, rfl, ⟨_, rfl, Nat.le_refl _, by rw [Int.natCast_add]; exact hnew⟩, hd⟩
 | gap t a d =>
  obtain ⟨g, rfl, hF, hB⟩ := hp
  have has := fun w => as_gap_leaf ⟨g, 0, none⟩ w
  clear hB hk
  go_enter Tryz.func164, Tryz.ntmps164
  go_wp2_with fail
  go_ret
  exact ⟨_, rfl, rfl, Below.refl _ _⟩
 | branch k a l =>
  obtain ⟨g, rfl, hF, hB⟩ := hp
  have has := fun w => as_branch_leaf ⟨g, 0, none⟩ w
  clear hB hk
  go_enter Tryz.func164, Tryz.ntmps164
  go_wp2_with fail
  go_ret
  exact ⟨_, rfl, rfl, Below.refl _ _⟩
def usC (u : Sc.Us) : Array Value := #[.int .i64 (u.file : Int), .int .i64 (u.at_ : Int), .int .i64 (u.as_ : Int), .int .i64 u.toFile, .int .i64 u.to_, .int .i64 (u.err : Int)]
def zero6 : Array Value := #[.int .i64 0, .int .i64 0, .int .i64 0, .int .i64 0, .int .i64 0, .int .i64 0]
theorem six_below {B r : Nat} {w w' : World} (h : Below B w w') (hr : B ≤ r) (a b c d e f : Value) : Below B w ((((((World.setCell w' ⟨r, 0, none⟩ a).setCell ⟨r, 1, none⟩ b).setCell ⟨r, 2, none⟩ c).setCell ⟨r, 3, none⟩ d).setCell ⟨r, 4, none⟩ e).setCell ⟨r, 5, none⟩ f) :=
 (((((h.setCell (p := ⟨r, 0, none⟩) hr a).setCell (p := ⟨r, 1, none⟩) hr b).setCell (p := ⟨r, 2, none⟩) hr c).setCell (p := ⟨r, 3, none⟩) hr d).setCell (p := ⟨r, 4, none⟩) hr e).setCell (p := ⟨r, 5, none⟩) hr f
theorem six_blk {r : Nat} {w : World} {t : TypeId} {x0 x1 x2 x3 x4 x5 : Value} (h : Blk w r t #[x0, x1, x2, x3, x4, x5]) (a b c d e f : Value) : Blk ((((((World.setCell w ⟨r, 0, none⟩ a).setCell ⟨r, 1, none⟩ b).setCell ⟨r, 2, none⟩ c).setCell ⟨r, 3, none⟩ d).setCell ⟨r, 4, none⟩ e).setCell ⟨r, 5, none⟩ f) r t #[a, b, c, d, e, f] := by
 have := (((((h.set_ 0 a).set_ 1 b).set_ 2 c).set_ 3 d).set_ 4 e).set_ 5 f
 simpa using this
theorem six_cells {r : Nat} {w : World} {t : TypeId} {a b c d e f : Value} (h : Blk w r t #[a, b, c, d, e, f]) :
  (w.cell? ⟨r, 0, none⟩ = some a ∧ w.cell? ⟨r, 1, none⟩ = some b ∧ w.cell? ⟨r, 2, none⟩ = some c ∧ w.cell? ⟨r, 3, none⟩ = some d ∧ w.cell? ⟨r, 4, none⟩ = some e ∧ w.cell? ⟨r, 5, none⟩ = some f) ∧
  (w.frozen? ⟨r, 0, none⟩ = false ∧ w.frozen? ⟨r, 1, none⟩ = false ∧ w.frozen? ⟨r, 2, none⟩ = false ∧ w.frozen? ⟨r, 3, none⟩ = false ∧ w.frozen? ⟨r, 4, none⟩ = false ∧ w.frozen? ⟨r, 5, none⟩ = false) :=
 ⟨⟨h.cell 0, h.cell 1, h.cell 2, h.cell 3, h.cell 4, h.cell 5⟩, h.frozen 0, h.frozen 1, h.frozen 2, h.frozen 3, h.frozen 4, h.frozen 5⟩
def UseE (u : Sc.Us) (w : World) (e : Ending) (w' : World) : Prop := e = .returned (.agg (usC u)) ∧ Below w.heap.size w w'
set_option maxHeartbeats 4000000 in
set_option maxRecDepth 100000 in
theorem sc_nothing (f a k x : Nat) (w : World) : Calls Tryz.prog 172 #[.int .i64 (f : Int), .int .i64 (a : Int), .int .i64 (k : Int), .int .i64 (x : Int)] w (UseE (Sc.nothingM f a k x) w) := by
 have hd : Below w.heap.size w (w.alloc (.cells zero6 31)) := (Below.refl _ _).alloc (Nat.le_refl _) _
 have hr := Blk.new w 31 zero6
 unfold zero6 at hr hd
 obtain ⟨r, hr0⟩ : ∃ r, r = w.heap.size := ⟨_, rfl⟩
 rw [← hr0] at hr
 have Hr := Lib.hid hr0
 have HU : Hid (usC (Sc.nothingM f a k x) = #[.int .i64 (f : Int), .int .i64 (a : Int), .int .i64 (k : Int), .int .i64 (-1), .int .i64 (-1), .int .i64 (x : Int)]) := rfl
 go_enter Tryz.func172, Tryz.ntmps172
 go_upto_region 1 with fail
 rw [← hr0]
 clear hr0
 generalize w.alloc (.cells #[.int .i64 0, .int .i64 0, .int .i64 0, .int .i64 0, .int .i64 0, .int .i64 0] 31) = w1 at *
 obtain ⟨⟨k0, k1, k2, k3, k4, k5⟩, y0, y1, y2, y3, y4, y5⟩ := six_cells hr
 go_wp2_with fail
 have hb2 := six_below hd (show w.heap.size ≤ r by rw [Hr.out]; exact Nat.le_refl _) (.int .i64 (f : Int)) (.int .i64 (a : Int)) (.int .i64 (k : Int)) (.int .i64 (-1)) (.int .i64 (-1)) (.int .i64 (x : Int))
 have hr := six_blk hr (.int .i64 (f : Int)) (.int .i64 (a : Int)) (.int .i64 (k : Int)) (.int .i64 (-1)) (.int .i64 (-1)) (.int .i64 (x : Int))
 clear k0 k1 k2 k3 k4 k5 y0 y1 y2 y3 y4 y5
 generalize ((((((World.setCell w1 ⟨r, 0, none⟩ (.int .i64 (f : Int))).setCell ⟨r, 1, none⟩ (.int .i64 (a : Int))).setCell ⟨r, 2, none⟩ (.int .i64 (k : Int))).setCell ⟨r, 3, none⟩ (.int .i64 (-1))).setCell ⟨r, 4, none⟩ (.int .i64 (-1))).setCell ⟨r, 5, none⟩ (.int .i64 (x : Int))) = w3 at *
 obtain ⟨⟨k0, k1, k2, k3, k4, k5⟩, _⟩ := six_cells hr
 (try simp only [Exit.inBlock, Exit.then])
 refine bodyPost_ret (v := .agg (usC (Sc.nothingM f a k x))) (by rw [HU.out]; simp [results, Tryz.results172, go_sem, k0, k1, k2, k3, k4, k5]; try rfl) rfl ?_
 exact ⟨rfl, hb2⟩
set_option maxHeartbeats 4000000 in
set_option maxRecDepth 100000 in
theorem sc_itself (f a k : Nat) (tw : Bool) (w : World) : Calls Tryz.prog 167 #[.int .i64 (f : Int), .int .i64 (a : Int), .int .i64 (k : Int), .bool tw] w (UseE (Sc.itselfM f a k tw) w) := by
 have hd : Below w.heap.size w (w.alloc (.cells zero6 31)) := (Below.refl _ _).alloc (Nat.le_refl _) _
 have hr := Blk.new w 31 zero6
 unfold zero6 at hr hd
 obtain ⟨r, hr0⟩ : ∃ r, r = w.heap.size := ⟨_, rfl⟩
 rw [← hr0] at hr
 have Hr := Lib.hid hr0
 go_enter Tryz.func167, Tryz.ntmps167
 go_upto_region 1 with fail
 rw [← hr0]
 have hs1 := World.size_alloc w (.cells #[.int .i64 0, .int .i64 0, .int .i64 0, .int .i64 0, .int .i64 0, .int .i64 0] 31)
 rw [← hr0] at hs1
 clear hr0
 generalize w.alloc (.cells #[.int .i64 0, .int .i64 0, .int .i64 0, .int .i64 0, .int .i64 0, .int .i64 0] 31) = w1 at *
 have hrr : Hid (w.heap.size ≤ r + 1) := by show _ ≤ _; rw [Hr.out]; exact Nat.le_succ _
 have hq2 := Blk.new w1 31 #[.int .i64 (f : Int), .int .i64 (a : Int), .int .i64 (k : Int), .int .i64 (f : Int), .int .i64 (a : Int), .int .i64 0]
 have hd2 := hd.alloc hd.size (.cells #[.int .i64 (f : Int), .int .i64 (a : Int), .int .i64 (k : Int), .int .i64 (f : Int), .int .i64 (a : Int), .int .i64 0] 31)
 have hr2 := hr.alloc (.cells #[.int .i64 (f : Int), .int .i64 (a : Int), .int .i64 (k : Int), .int .i64 (f : Int), .int .i64 (a : Int), .int .i64 0] 31)
 rw [hs1] at hq2
 clear hr hd
 go_upto_if 16 with fail
 clear hs1
 generalize w1.alloc (.cells #[.int .i64 (f : Int), .int .i64 (a : Int), .int .i64 (k : Int), .int .i64 (f : Int), .int .i64 (a : Int), .int .i64 0] 31) = w2 at *
 go_cut [17] (fun _ w' => Blk w' (r + 1) 31 (usC (Sc.itselfM f a k tw)) ∧ Blk w' r 31 #[.int .i64 0, .int .i64 0, .int .i64 0, .int .i64 0, .int .i64 0, .int .i64 0] ∧ Below w.heap.size w w')
 case first =>
  cases tw with
  | false =>
   go_wp2_with fail
   go_meet
   exact ⟨hq2, hr2, hd2⟩
  | true =>
   have q5 := hq2.cell 5
   have z5 := hq2.frozen 5
   simp at q5
   have hq3 := hq2.set_ 5 (.int .i64 5)
   simp at hq3
   have hr3 := hr2.far (p := ⟨r + 1, 5, none⟩) (show r ≠ r + 1 by omega) (.int .i64 5)
   have hd3 := hd2.setCell (p := ⟨r + 1, 5, none⟩) hrr.out (.int .i64 5)
   go_wp2_with fail
   go_meet
   exact ⟨hq3, hr3, hd3⟩
 case rest =>
  obtain ⟨hq, hr, hd⟩ := hcut
  unfold usC at hq
  generalize Sc.itselfM f a k tw = u at *
  obtain ⟨⟨q0, q1, q2, q3, q4, q5⟩, _⟩ := six_cells hq
  obtain ⟨⟨k0, k1, k2, k3, k4, k5⟩, y0, y1, y2, y3, y4, y5⟩ := six_cells hr
  go_wp2_with fail
  have hb2 := six_below hd (show w.heap.size ≤ r by rw [Hr.out]; exact Nat.le_refl _) (.int .i64 (u.file : Int)) (.int .i64 (u.at_ : Int)) (.int .i64 (u.as_ : Int)) (.int .i64 u.toFile) (.int .i64 u.to_) (.int .i64 (u.err : Int))
  have hr := six_blk hr (.int .i64 (u.file : Int)) (.int .i64 (u.at_ : Int)) (.int .i64 (u.as_ : Int)) (.int .i64 u.toFile) (.int .i64 u.to_) (.int .i64 (u.err : Int))
  clear k0 k1 k2 k3 k4 k5 y0 y1 y2 y3 y4 y5 q0 q1 q2 q3 q4 q5 hq
  generalize ((((((World.setCell wc ⟨r, 0, none⟩ (.int .i64 (u.file : Int))).setCell ⟨r, 1, none⟩ (.int .i64 (u.at_ : Int))).setCell ⟨r, 2, none⟩ (.int .i64 (u.as_ : Int))).setCell ⟨r, 3, none⟩ (.int .i64 u.toFile)).setCell ⟨r, 4, none⟩ (.int .i64 u.to_)).setCell ⟨r, 5, none⟩ (.int .i64 (u.err : Int))) = w3 at *
  obtain ⟨⟨k0, k1, k2, k3, k4, k5⟩, _⟩ := six_cells hr
  (try simp only [Exit.inBlock, Exit.then])
  refine bodyPost_ret (v := .agg (usC u)) (by unfold usC; simp [results, Tryz.results167, go_sem, k0, k1, k2, k3, k4, k5]; try rfl) rfl ?_
  exact ⟨rfl, hb2⟩
def EnvF (w : World) (F : Nat → Prop) : Sc.Env → Option Addr → Prop
 | [], p => p = none
 | y :: e, p => ∃ g q, p = some ⟨g, 0, none⟩ ∧ F g ∧ Blk w g 359 #[.string ⟨y.1.toArray⟩, .int .i64 (y.2 : Int), .pointer q] ∧ EnvF w F e q
theorem EnvF.keep {w w' : World} {F F' : Nat → Prop} (hk : ∀ b, F b → b < w.heap.size → w'.heap[b]? = w.heap[b]? ∧ F' b) : ∀ {e : Sc.Env} {p : Option Addr}, EnvF w F e p → EnvF w' F' e p
 | [], _, h => h
 | y :: e, p, h => by
  obtain ⟨g, q, e1, hF, hB, he⟩ := h
  have := hk g hF hB.lt
  exact ⟨g, q, e1, this.2, this.1.trans hB, EnvF.keep hk he⟩
theorem EnvF.below {w w' : World} {F : Nat → Prop} {e : Sc.Env} {p : Option Addr} (h : EnvF w F e p) (hd : Below w.heap.size w w') : EnvF w' F e p := h.keep fun b hF hl => ⟨hd.block b hl, hF⟩
def FindE (x : Option Nat) (w : World) (e : Ending) (w' : World) : Prop := e = .returned (.tuple #[.int .i64 (((x.getD 0 : Nat)) : Int), .bool x.isSome]) ∧ w' = w
set_option maxHeartbeats 4000000 in
set_option maxRecDepth 100000 in
theorem sc_find {w : World} {F : Nat → Prop} {e : Sc.Env} {p : Option Addr} (h : EnvF w F e p) (n : Bs) : Calls Tryz.prog 238 #[.pointer p, .string ⟨n.toArray⟩] w (FindE (Sc.findM n e) w) := by
 generalize hR : Sc.findM n e = R
 have HR : Hid (R = Sc.findM n e) := hR.symm
 clear hR
 go_enter Tryz.func238, Tryz.ntmps238
 go_wp2_with fail
 go_loopg [0] e.length (fun m v wr => wr = w ∧ ∃ (e' : Sc.Env) (p' : Option Addr), v = .pointer p' ∧ EnvF w F e' p' ∧ e'.length ≤ m ∧ Hid (R = Sc.findM n e'))
 case atStart => exact ⟨rfl, e, p, rfl, h, Nat.le_refl _, HR⟩
 case round =>
  clear h HR
  obtain ⟨rfl, e', p', rfl, h, hm, HR⟩ := hrel
  cases e' with
  | nil =>
   obtain rfl : p' = none := h
   have HR : Hid (R = none) := HR
   clear hm
   go_wp2_with fail
   go_ret2
   rw [HR.out]
   exact ⟨rfl, rfl⟩
  | cons y e' =>
   obtain ⟨g, q, rfl, hF, hB, he⟩ := h
   have b0 := hB.cell 0
   have b1 := hB.cell 1
   have b2 := hB.cell 2
   simp at b0 b1 b2
   have HR : Hid (R = (((y :: e').find? fun x => x.1 == n).map (·.2))) := HR
   by_cases hy : y.1 = n
   ·have HR : Hid (R = some y.2) := by show _ = _; rw [HR.out]; simp [hy]
    have e1 : (y.1 == n) = true := by simp [hy]
    clear hB hm hy
    go_wp2_with fail
    go_ret2
    rw [HR.out]
    exact ⟨rfl, rfl⟩
   ·have HR : Hid (R = Sc.findM n e') := by show _ = _; rw [HR.out]; unfold Sc.findM; simp [hy]
    have e1 : (y.1 == n) = false := by simp [hy]
    have Hm : Hid (e'.length + 1 ≤ gk) := hm
    clear hB hm hy
    go_wp2_with fail
    go_roundg e'.length
    case rel => exact ⟨rfl, e', q, rfl, he, Nat.le_refl _, HR⟩
    case measure => have := Hm.out; omega
theorem WdF.grown {w w' : World} {F : Nat → Prop} {B size n : Nat} {e : TypeId} {v : Value} {xs : List Value} (hown : w.ownsRow B e size v n xs) (hg : w.grownBy w' v.ownBlock) (he : e ≠ 237) {x : Option Sc.Wd} {u : Value} (h : WdF w F x u) : WdF w' F x u := by
 cases x with
 | none => exact h
 | some x =>
  obtain ⟨g, e1, hF, hB⟩ := h
  exact ⟨g, e1, hF, hB.grown hg (own_ne hown hB he)⟩
theorem WdsF.grown {w w' : World} {F : Nat → Prop} {B size n : Nat} {e : TypeId} {v : Value} {xs : List Value} (hown : w.ownsRow B e size v n xs) (hg : w.grownBy w' v.ownBlock) (he : e ≠ 237) : ∀ {l : List (Option Sc.Wd)} {us : List Value}, WdsF w F l us → WdsF w' F l us
 | [], _, h => h
 | x :: l, us, h => by
  obtain ⟨u, us', e1, hx, hl⟩ := h
  exact ⟨u, us', e1, hx.grown hown hg he, WdsF.grown hown hg he hl⟩
theorem WdF.mono {w : World} {F F' : Nat → Prop} (hF : ∀ x, F x → F' x) {x : Option Sc.Wd} {u : Value} (h : WdF w F x u) : WdF w F' x u := h.keep fun b hb _ => ⟨rfl, hF b hb⟩
theorem WdsF.mono {w : World} {F F' : Nat → Prop} (hF : ∀ x, F x → F' x) {l : List (Option Sc.Wd)} {us : List Value} (h : WdsF w F l us) : WdsF w F' l us := h.keep fun b hb _ => ⟨rfl, hF b hb⟩
theorem bd_wordp : (Tryz.prog.info? 231).map (fun i => (i.zero, i.size, i.bytes)) = some (some (.pointer none), 1, 8) := by kernel_rfl
def WordsE (l : List (Option Sc.Wd)) (w : World) (e : Ending) (w' : World) : Prop :=
 ∃ A c vs, e = .returned (.slice A l.length c) ∧ w'.ownsRow w.heap.size 231 1 (.slice A l.length c) l.length vs ∧ WdsF w' (fun x => w.heap.size ≤ x) l vs ∧ Below w.heap.size w w'
def Sc.wdOf (b : Nat) (x : Option (Bs × Nat)) : Option Sc.Wd := x.map fun y => ⟨y.1, b + y.2⟩
set_option maxHeartbeats 8000000 in
set_option maxRecDepth 100000 in
theorem sc_wordsOf {w : World} {F : Nat → Prop} {ib b q k a : Nat} {l : List Tr.PT} (hp : PtF w F (.branch k a l) (.iface 114 (.pointer (some ⟨q, 0, none⟩)))) (hl : l.length ≤ 1000000000) (hb : w.cell? ⟨ib, 1, none⟩ = some (.int .i64 (b : Int))) (hlow : ∀ y, some y ∈ Sc.namesL l → b + y.2 ≤ 1000000000) :
  Calls Tryz.prog 214 #[.pointer (some ⟨ib, 0, none⟩), .pointer (some ⟨q, 0, none⟩)] w (WordsE (Sc.wordsOf b (.branch k a l)) w) := by
 obtain ⟨i0, ji, jz0, jz1, jz2⟩ := info_parts bd_wordp
 have hn := names_walk hp hl
 have HW : Hid (Sc.wordsOf b (.branch k a l) = (Sc.namesL l).map (Sc.wdOf b)) := rfl
 have hlen : (Sc.namesL l).length ≤ 1000000000 := Nat.le_trans (Sc.names_take1_le l) hl
 have hbl := World.block_lt_of_cell? w ⟨ib, 1, none⟩ hb
 clear hp hl
 generalize Sc.wordsOf b (.branch k a l) = W at *
 generalize Sc.namesL l = L at *
 go_enter Tryz.func214, Tryz.ntmps214
 go_wp2_with fail
 refine hn.mono ?_
 clear hn
 rintro e w1 ⟨A, c, vs, rfl, hown0, hps, hd0⟩
 have hb1 := (hd0.cell (p := ⟨ib, 1, none⟩) hbl).trans hb
 have hbl1 : ib < w1.heap.size := Nat.lt_of_lt_of_le hbl hd0.size
 have Hl := Lib.hid hlen
 have Hd0 := Lib.hid hd0.size
 clear hlen hb hbl
 go_wp2_with fail
 go_loopg [5, 11] L.length (fun m v u wr => ∃ (i : Nat) (Ao : Option Addr) (co : Nat) (ovs : List Value), v = .slice Ao i co ∧ u = .int .i64 (i : Int) ∧ i ≤ L.length ∧ L.length - i ≤ m ∧ wr.ownsRow w1.heap.size 231 1 (.slice Ao i co) i ovs ∧ WdsF wr (fun x => w1.heap.size ≤ x) ((L.take i).map (Sc.wdOf b)) ovs ∧ Below w1.heap.size w1 wr)
 case atStart => exact ⟨0, none, 0, [], rfl, rfl, Nat.zero_le _, Nat.le_refl _, World.ownsRow_nil _ _ _ _, rfl, Below.refl _ _⟩
 case round =>
  obtain ⟨i, Ao, co, ovs, rfl, rfl, hi, hm, hown, hos, hd⟩ := hrel
  by_cases hlt : i < L.length
  ·have ii0 : (0 : Int) ≤ (i : Int) := by omega
   have ii1 : (i : Int) < (L.length : Int) := by omega
   obtain ⟨v, hv, hpv⟩ := hps.at_ hlt
   obtain ⟨r0, rfl, hc⟩ := own_at hown0 (by omega)
   have hcell := hc _ _ hv
   have hrl := World.block_lt_of_cell? w1 ⟨r0, i, none⟩ hcell
   have q0 := (hd.cell (p := ⟨r0, i, none⟩) hrl).trans hcell
   have HT : Hid ((L.take (i + 1)).map (Sc.wdOf b) = (L.take i).map (Sc.wdOf b) ++ [Sc.wdOf b L[i]]) := by show _ = _; rw [List.take_succ_eq_append_getElem hlt, List.map_append]; rfl
   have Hlo : Hid (∀ y, L[i] = some y → b + y.2 ≤ 1000000000) := fun y e => hlow y (e ▸ List.getElem_mem hlt)
   have c1 : IntKind.i64.wrap ((i : Int) + 1) = (i : Int) + 1 := IntWalk.i64_in _ (by have := Hl.out; omega)
   generalize L[i] = p at *
   have Hlt := Lib.hid hlt
   have Hm := Lib.hid hm
   have hsz := hd.size
   have Hsz := Lib.hid hsz
   have Hi : Hid (i ≤ 1000000000) := by have := Hl.out; show _ ≤ _; omega
   clear hv hc hcell hrl hlt hm hi hsz
   cases p with
   | none =>
    obtain rfl : v = .pointer none := hpv
    have HT : Hid ((L.take (i + 1)).map (Sc.wdOf b) = (L.take i).map (Sc.wdOf b) ++ [none]) := HT
    generalize (L.take i).map (Sc.wdOf b) = st at *
    go_wp2_with (at_builtin; refine wpList_push _ rfl _ _ 232 rfl w1.heap.size 231 1 8 Tryz.underlying232 ji jz0 jz1 jz2 rfl (by omega) rfl hown #[.pointer none] rfl rfl (by simp [Value.oneCell']) Hi.out (by omega) Hsz.out ?_; intro A' c' w2 hown2 hd2 hg2)
    have hos2 := (hos.grown hown hg2 (by decide)).snoc (x := none) (v := .pointer none) rfl
    go_roundg (L.length - (i + 1))
    case rel => exact ⟨i + 1, A', c', _, rfl, by go_num, by have := Hlt.out; omega, Nat.le_refl _, hown2, by rw [HT.out]; exact hos2, hd.trans hd2⟩
    case measure => have := Hlt.out; have := Hm.out; omega
   | some y =>
    obtain ⟨g, rfl, hF, hB⟩ := hpv
    have hgl := hB.lt
    have hB := hB.below hd hB.lt
    have k1 := hB.cell 1
    have k2 := hB.cell 2
    simp at k1 k2
    have kb := (hd.cell (p := ⟨ib, 1, none⟩) hbl1).trans hb1
    have c2 : IntKind.i64.wrap ((b : Int) + (y.2 : Int)) = (b : Int) + (y.2 : Int) := IntWalk.i64_in _ (by have := Hlo.out y rfl; omega)
    have HT : Hid ((L.take (i + 1)).map (Sc.wdOf b) = (L.take i).map (Sc.wdOf b) ++ [some ⟨y.1, b + y.2⟩]) := HT
    have k1 : wr.drew.cell? ⟨g, 1, none⟩ = some (.string ⟨y.1.toArray⟩) := k1
    have k2 : wr.drew.cell? ⟨g, 2, none⟩ = some (.int .i64 (y.2 : Int)) := k2
    have kb : wr.drew.cell? ⟨ib, 1, none⟩ = some (.int .i64 (b : Int)) := kb
    have hown : wr.drew.ownsRow w1.heap.size 231 1 (.slice Ao i co) i ovs := hown
    have hos := hos.below ((Below.refl _ _).drew)
    have hd := hd.drew
    have Hsz : Hid (w1.heap.size ≤ wr.drew.heap.size) := Hsz
    generalize (L.take i).map (Sc.wdOf b) = st at *
    clear hB hF Hlo
    go_wp2_with fail
    refine wp_region_G 18 (fun w' : World => w'.cell? ⟨g, 1, none⟩ = some (.string ⟨y.1.toArray⟩) ∧ w'.cell? ⟨ib, 1, none⟩ = some (.int .i64 (b : Int)) ∧ w'.cell? ⟨g, 2, none⟩ = some (.int .i64 (y.2 : Int))) (by kernel_rfl) ?_
    clear q0
    generalize wr.drew = w2 at *
    have hS0 : (fun w' : World => w'.cell? ⟨g, 1, none⟩ = some (.string ⟨y.1.toArray⟩) ∧ w'.cell? ⟨ib, 1, none⟩ = some (.int .i64 (b : Int)) ∧ w'.cell? ⟨g, 2, none⟩ = some (.int .i64 (y.2 : Int))) w2 := ⟨k1, kb, k2⟩
    refine wpAnyG_tk 0 hS0 ?_
    simp only [Act.put, List.setIfInBounds_toArray]
    refine wpAnyG_tk 1 hS0 ?_
    simp only [Act.put]
    refine wpAnyG_tk 2 hS0 ?_
    simp only [Act.put]
    refine wpAnyG_tk 3 hS0 ?_
    simp only [Act.put]
    refine wpAnyG_tk 4 hS0 ?_
    simp only [Act.put]
    refine wpAnyG_tk 5 hS0 ?_
    simp only [Act.put]
    refine wpAnyG_tk 6 hS0 ?_
    simp only [Act.put]
    refine wpAnyG_tk 7 hS0 ?_
    simp only [Act.put]
    refine wpAnyG_tk 8 hS0 ?_
    simp only [Act.put]
    refine wpAnyG_tk 9 hS0 ?_
    simp only [Act.put]
    refine wpAnyG_tk 10 hS0 ?_
    simp only [Act.put]
    refine wpAnyG_tk 11 hS0 ?_
    simp only [Act.put]
    refine wpAnyG_tk 12 hS0 ?_
    simp only [Act.put]
    refine wpAnyG_tk 13 hS0 ?_
    simp only [Act.put]
    refine wpAnyG_tk 14 hS0 ?_
    simp only [Act.put]
    have hKp : ∀ w', Below w1.heap.size w2 w' → (fun w' : World => w'.cell? ⟨g, 1, none⟩ = some (.string ⟨y.1.toArray⟩) ∧ w'.cell? ⟨ib, 1, none⟩ = some (.int .i64 (b : Int)) ∧ w'.cell? ⟨g, 2, none⟩ = some (.int .i64 (y.2 : Int))) w' := fun w' h => ⟨(h.cell (p := ⟨g, 1, none⟩) hgl).trans k1, (h.cell (p := ⟨ib, 1, none⟩) hbl1).trans kb, (h.cell (p := ⟨g, 2, none⟩) hgl).trans k2⟩
    have hnew : Blk (w2.alloc (.cells #[.string ⟨y.1.toArray⟩, .int .i64 ((b : Int) + (y.2 : Int))] 237)) w2.heap.size 237 #[.string ⟨y.1.toArray⟩, .int .i64 ((b + y.2 : Nat) : Int)] := by rw [Int.natCast_add]; exact Blk.new w2 _ _
    have hd3 : Below w2.heap.size w2 (w2.alloc (.cells #[.string ⟨y.1.toArray⟩, .int .i64 ((b : Int) + (y.2 : Int))] 237)) := (Below.refl _ _).alloc (Nat.le_refl _) _
    have hown3 := hown.alloc (.cells #[.string ⟨y.1.toArray⟩, .int .i64 ((b : Int) + (y.2 : Int))] 237)
    have Hz3 : Hid (w1.heap.size ≤ (w2.alloc (.cells #[.string ⟨y.1.toArray⟩, .int .i64 ((b : Int) + (y.2 : Int))] 237)).heap.size) := by have := hd3.size; have := Hsz.out; show _ ≤ _; omega
    have Hd3 : Hid (Below w1.heap.size w2 (w2.alloc (.cells #[.string ⟨y.1.toArray⟩, .int .i64 ((b : Int) + (y.2 : Int))] 237))) := hd3.mono Hsz.out
    have hos3 := hos.below hd3
    have Hd4 := Lib.hid (hd.trans Hd3.out)
    have hpn : WdF (w2.alloc (.cells #[.string ⟨y.1.toArray⟩, .int .i64 ((b : Int) + (y.2 : Int))] 237)) (fun x => w1.heap.size ≤ x) (some ⟨y.1, b + y.2⟩) (.pointer (some ⟨w2.heap.size, 0, none⟩)) := ⟨_, rfl, Hsz.out, hnew⟩
    have Hh := Lib.hid (World.size_alloc w2 (.cells #[.string ⟨y.1.toArray⟩, .int .i64 ((b : Int) + (y.2 : Int))] 237))
    clear hS0 hos hd hown hnew hd3
    refine wpAnyG_on 15 fun C hC => ?_
    go_simp
    refine hC.out _ _ (fun _ => hKp _ Hd3.out) ?_
    clear hC C
    generalize w2.alloc (.cells #[.string ⟨y.1.toArray⟩, .int .i64 ((b : Int) + (y.2 : Int))] 237) = w3 at *
    refine wpAnyG_on 16 fun C hC => ?_
    go_simp
    refine hC.out _ _ (fun _ => hKp _ (Hd3.out.alloc Hz3.out _)) ?_
    clear hC C
    refine wpAnyG_on 17 fun C hC => ?_
    refine step_push w3 (by rfl) _ _ 232 (by rfl) w1.heap.size 231 1 8 Tryz.underlying232 ji jz0 jz1 jz2 rfl (by omega) (by rfl) hown3 #[.pointer (some ⟨w2.heap.size, 0, none⟩)] (by rw [Hh.out]; rfl) rfl (by simp [Value.oneCell']) Hi.out (by omega) Hz3.out ?_
    intro A' c' w5 hown2 hd2 hg2
    refine hC.out _ _ (fun _ => hKp _ (Hd3.out.trans hd2)) ?_
    clear hC C
    refine wpAnyG_on 18 fun C hC => ?_
    go_simp
    refine hC.out _ _ (fun h => absurd rfl h) ?_
    clear hC C
    refine wpAnyG_done (by kernel_rfl) ?_ _
    clear hKp k1 k2 kb
    go_wp2_with fail
    have hos2 := (hos3.grown hown3 hg2 (by decide)).snoc (hpn.grown hown3 hg2 (by decide))
    go_roundg (L.length - (i + 1))
    case rel => exact ⟨i + 1, A', c', _, rfl, by go_num, by have := Hlt.out; omega, Nat.le_refl _, hown2, by rw [HT.out]; exact hos2, Hd4.out.trans hd2⟩
    case measure => have := Hlt.out; have := Hm.out; omega
  ·obtain rfl : i = L.length := by omega
   have i1 : ¬ (L.length : Int) < (L.length : Int) := by omega
   have i2 : decide (L.length < L.length) = false := by simp
   rw [List.take_length] at hos
   have hWl : W.length = L.length := by rw [HW.out, List.length_map]
   have Hwl := Lib.hid hWl
   clear hlt hi hm hWl
   go_wp2_with fail
   go_ret
   refine ⟨Ao, co, ovs, by rw [Hwl.out]; rfl, ?_, by rw [HW.out]; exact hos.mono fun x hx => Nat.le_trans Hd0.out hx, hd0.trans (hd.mono Hd0.out)⟩
   rw [Hwl.out]
   exact own_mono hown Hd0.out
end Go.Proofs.YtcjjfeephaddcaaGreatDoor
namespace Go.Proofs.YtcjjfeephaddcaaGreatDoor
open Go.RowKit Go.Maps
theorem scLaid : laidOutB Tryz.prog = true := by kernel_rfl
theorem rowPlace : (325 : TypeId) < Tryz.prog.types.size := of_decide_eq_true (by kernel_rfl)
theorem widePlace : (match Tryz.prog.underlying 325 with | some (.array _ _) | some (.struct _) => true | _ => false) = true := by kernel_rfl
theorem deepPlace : Tryz.prog.keyTypeAt 2 325 = true := by kernel_rfl
set_option maxRecDepth 100000 in
theorem placeLaw0 : WideMaps.KeyLaw Tryz.prog 325 := deep_law_laid scLaid (m := 2) (by omega) rowPlace deepPlace widePlace
theorem placeLaw : Keyed Tryz.prog 325 := Keyed.of_law placeLaw0
theorem cellsPlace : Tryz.prog.cellsOf 325 = 2 := by kernel_rfl
theorem cellsInt : Tryz.prog.cellsOf 3 = 1 := by kernel_rfl
theorem keyPlace : Tryz.prog.keyType 325 = true := by kernel_rfl
theorem nofPlace : (match Tryz.prog.underlying 325 with | some (.struct fs) => fs.all (·.name != "_") && (fs.toList.map (fun f => (f.type, f.offset)) == [(3, 0), (3, 1)]) | _ => false) = true := by kernel_rfl
theorem typesPos : ∃ n, Tryz.prog.types.size = n + 1 := by
 have h : (0 : Nat) < Tryz.prog.types.size := of_decide_eq_true (by kernel_rfl)
 exact ⟨Tryz.prog.types.size - 1, by omega⟩
set_option maxRecDepth 100000 in
theorem wf_nat {a : Nat} (h : a ≤ 1000000000000) : (Lit.int .i64 (a : Int)).wf = true := WalkArith.wf_i64 (by omega)
set_option maxRecDepth 100000 in
theorem int_lits {a d : Nat} (h : a ≤ 1000000000000) : Tryz.prog.keyLits (d + 1) 3 [.int .i64 (a : Int)] = some [.int .i64 (a : Int)] := by
 unfold Program.keyLits
 rw [Tryz.underlying3]
 simp [wf_nat h]
set_option maxRecDepth 100000 in
theorem place_key {f a : Nat} (hf : f ≤ 1000000000000) (ha : a ≤ 1000000000000) : ∃ kl, keyOf Tryz.prog 325 (.agg #[.int .i64 (f : Int), .int .i64 (a : Int)]) = some kl := by
 obtain ⟨n, hn⟩ := typesPos
 have hw := widePlace
 have hk := nofPlace
 have hform : (Value.agg #[.int .i64 (f : Int), .int .i64 (a : Int)]).formed Tryz.prog 325 = true := by
  unfold Value.formed
  split at hw <;> simp_all [cellsPlace]
 unfold keyOf
 cases hu : Tryz.prog.underlying 325 with
 | none => rw [hu] at hk; cases hk
 | some u =>
  rw [hu] at hk
  cases u with
  | struct fs =>
   simp only [Bool.and_eq_true, beq_iff_eq] at hk
   obtain ⟨h1, h2⟩ := hk
   rw [hform, keyPlace, hn]
   have : Tryz.prog.keyLits (n + 1 + 1) 325 (Value.agg #[.int .i64 (f : Int), .int .i64 (a : Int)]).cells.toList = some [.int .i64 (f : Int), .int .i64 (a : Int)] := by
    unfold Program.keyLits
    rw [hu]
    have e : (Value.agg #[.int .i64 (f : Int), .int .i64 (a : Int)]).cells.toList = [.int .i64 (f : Int), .int .i64 (a : Int)] := by simp [Value.cells]
    rw [e]
    dsimp only
    rw [if_pos ⟨by rw [cellsPlace]; rfl, h1⟩]
    have hm : fs.toList.mapM (fun f' => Tryz.prog.keyLits (n + 1) f'.type (([Value.int .i64 (f : Int), .int .i64 (a : Int)].drop f'.offset).take (Tryz.prog.cellsOf f'.type))) = (fs.toList.map fun f' => (f'.type, f'.offset)).mapM (fun x => Tryz.prog.keyLits (n + 1) x.1 (([Value.int .i64 (f : Int), .int .i64 (a : Int)].drop x.2).take (Tryz.prog.cellsOf x.1))) := by
     rw [List.mapM_map]; rfl
    rw [hm, h2]
    simp [cellsInt, int_lits hf, int_lits ha]
   rw [this]
   exact ⟨_, rfl⟩
  | _ => cases hk
def Sc.lastM (us : List Sc.Us) (f a : Nat) : Option Nat := ((us.zipIdx.filter fun p => decide (p.1.file = f ∧ p.1.at_ = a)).getLast?).map (·.2)
theorem Sc.last_snoc (us : List Sc.Us) (u : Sc.Us) (f a : Nat) : Sc.lastM (us ++ [u]) f a = if u.file = f ∧ u.at_ = a then some us.length else Sc.lastM us f a := by
 have e : (us ++ [u]).zipIdx = us.zipIdx ++ [(u, us.length)] := by simp [List.zipIdx_append]
 unfold Sc.lastM
 rw [e, List.filter_append]
 by_cases h : u.file = f ∧ u.at_ = a
 ·rw [if_pos h, List.filter_cons_of_pos (by simpa using h), List.filter_nil, List.getLast?_concat]
  rfl
 ·rw [if_neg h, List.filter_cons_of_neg (by simpa using h), List.filter_nil, List.append_nil]
theorem Sc.last_at {us : List Sc.Us} {f a i : Nat} (h : Sc.lastM us f a = some i) : ∃ u, us[i]? = some u ∧ u.file = f ∧ u.at_ = a := by
 unfold Sc.lastM at h
 obtain ⟨⟨u, k⟩, h1, h2⟩ := Option.map_eq_some_iff.1 h
 have h3 := List.mem_filter.1 (List.mem_of_getLast? h1)
 obtain ⟨h4, h5⟩ := h3
 rw [List.mem_zipIdx_iff_getElem?] at h4
 dsimp only at h2 h4
 subst h2
 exact ⟨u, h4, by simpa using h5⟩
def AtIs (D : DataW Unit) (us : List Sc.Us) : Prop := (∀ u ∈ us, u.file ≤ 1000000000 ∧ u.at_ ≤ 1000000000) ∧ ∀ (f a : Nat) (kl : Lit), keyOf Tryz.prog 325 (.agg #[.int .i64 (f : Int), .int .i64 (a : Int)]) = some kl → has D kl = (Sc.lastM us f a).isSome ∧ ∀ i, Sc.lastM us f a = some i → ∀ z, D.atKey kl z = .lit (.int .i64 (i : Int))
set_option maxRecDepth 100000 in
theorem AtIs.nil : AtIs (.map []) [] := ⟨by simp, fun f a kl _ => ⟨rfl, fun i h => by simp [Sc.lastM] at h⟩⟩
set_option maxRecDepth 100000 in
theorem AtIs.put {D : DataW Unit} {us : List Sc.Us} (h : AtIs D us) (hD : IsMap D) {u : Sc.Us} {kl : Lit} (hf : u.file ≤ 1000000000) (ha : u.at_ ≤ 1000000000) (hk : keyOf Tryz.prog 325 (.agg #[.int .i64 (u.file : Int), .int .i64 (u.at_ : Int)]) = some kl) :
  AtIs (D.put kl (.lit (.int .i64 (us.length : Int)))) (us ++ [u]) := by
 obtain ⟨h0, h⟩ := h
 refine ⟨fun x hx => ?_, fun f a k2 hk2 => ?_⟩
 ·rcases List.mem_append.1 hx with hx | hx
  ·exact h0 x hx
  ·rw [List.mem_singleton] at hx
   subst hx
   exact ⟨hf, ha⟩
 rw [Sc.last_snoc]
 by_cases e : u.file = f ∧ u.at_ = a
 ·obtain ⟨rfl, rfl⟩ := e
  rw [hk] at hk2
  injection hk2 with hk2
  subst hk2
  rw [if_pos ⟨rfl, rfl⟩]
  refine ⟨has_put_same hD (placeLaw.key hk) _, fun i hi z => ?_⟩
  injection hi with hi
  subst hi
  exact atKey_put_same hD (placeLaw.key hk) _ _
 ·have hne : k2 ≠ kl := fun e2 => by
   subst e2
   have h3 := placeLaw.inj hk hk2
   injection h3 with h3
   have h4 := congrArg Array.toList h3
   simp at h4
   exact e ⟨by omega, by omega⟩
  rw [if_neg e, has_put_other hne]
  refine ⟨(h f a k2 hk2).1, fun i hi z => ?_⟩
  rw [atKey_put_other hne]
  exact (h f a k2 hk2).2 i hi z
structure PgS (w0 w : World) (pg mb : Nat) (fs ts is fd : Value) (us : List Sc.Us) : Prop where
 size : w0.heap.size ≤ w.heap.size
 old : ∀ x, x < w0.heap.size → x ≠ pg → x ≠ mb → w.heap[x]? = w0.heap[x]?
 calm : Calm w0 w
 blk : ∃ A c, Blk w pg 86 #[fs, ts, is, .slice A us.length c, fd, .map (some mb)] ∧ w.ownsRow w0.heap.size 31 6 (.slice A us.length c) us.length (us.flatMap fun u => (usC u).toList)
 map : ∃ D : DataW Unit, w.ownsMap Tryz.prog 325 (plainElem Tryz.prog 3) mb us.length D ∧ AtIs D us
 pl : pg < w0.heap.size
 ml : mb < w0.heap.size
section
variable {w0 w w' : World} {pg mb : Nat} {fs ts is fd : Value} {us : List Sc.Us}
theorem PgS.grown (h : PgS w0 w pg mb fs ts is fd us) (hs : w.heap.size ≤ w'.heap.size) (hk : ∀ x, x < w.heap.size → w'.heap[x]? = w.heap[x]?) (hc : Calm w w') : PgS w0 w' pg mb fs ts is fd us := by
 obtain ⟨A, c, hB, ho⟩ := h.blk
 obtain ⟨D, hm, hAt⟩ := h.map
 refine ⟨Nat.le_trans h.size hs, fun x hx h1 h2 => (hk x (Nat.lt_of_lt_of_le hx h.size)).trans (h.old x hx h1 h2), h.calm.trans hc, ⟨A, c, (hk _ hB.lt).trans hB, own_of_block ho fun k hk' => hk k (ho.lt k hk').2⟩, ⟨D, hm.kept (row := none) ⟨hc.os, hc.tape, hc.output, hs, fun k hk' _ => hk k hk'⟩ (by simp), hAt⟩, h.pl, h.ml⟩
theorem PgS.below (h : PgS w0 w pg mb fs ts is fd us) (hd : Below w.heap.size w w') : PgS w0 w' pg mb fs ts is fd us := h.grown hd.size (fun x hx => hd.block x hx) (Calm.below hd)
end
theorem bd_use : (Tryz.prog.info? 31).map (fun i => (i.zero, i.size, i.bytes)) = some (some (.agg zero6), 6, 48) := by kernel_rfl
theorem Calm.grown {w w' : World} {row : Option Nat} (h : w.grownBy w' row) : Calm w w' := ⟨h.os, h.tape, h.output⟩
theorem Calm.drew {w w' : World} (h : Calm w w') : Calm w w'.drew := ⟨h.os, h.tape, h.output⟩
theorem grown_set (w : World) (b i : Nat) (v : Value) : w.grownBy (w.setCell ⟨b, i, none⟩ v) (some b) :=
 ⟨(Calm.set w _ v).os, (Calm.set w _ v).tape, (Calm.set w _ v).output, by simp [World.setCell], fun k _ hk => Below.heap_setCell w ⟨b, i, none⟩ v k fun e => hk (by rw [e])⟩
def KeepC (T : List TypeId) (w w' : World) : Prop := ∀ (k : Nat) (cs : Array Value) (t : TypeId) (fr : Nat × Nat), w.heap[k]? = some (.cells cs t fr) → t ∉ T → w'.heap[k]? = some (.cells cs t fr)
section
variable {T : List TypeId} {w w1 w' : World}
theorem KeepC.refl (T : List TypeId) (w : World) : KeepC T w w := fun _ _ _ _ h _ => h
theorem KeepC.trans (h : KeepC T w w1) (h' : KeepC T w1 w') : KeepC T w w' := fun k cs t fr hk ht => h' k cs t fr (h k cs t fr hk ht) ht
theorem KeepC.below (hd : Below w.heap.size w w') : KeepC T w w' := fun k _ _ _ hk _ => (hd.block k (lt_heap hk)).trans hk
theorem KeepC.drew (h : KeepC T w w') : KeepC T w w'.drew := h
theorem KeepC.grown {row : Option Nat} (hg : w.grownBy w' row) (hr : ∀ g cs t fr, row = some g → w.heap[g]? = some (.cells cs t fr) → t ∈ T) : KeepC T w w' := fun k cs t fr hk ht =>
 (hg.block k (lt_heap hk) fun e => ht (hr k cs t fr e.symm hk)).trans hk
theorem Blk.keepC {g : Nat} {t : TypeId} {cs : Array Value} (h : Blk w g t cs) (hk : KeepC T w w') (ht : t ∉ T) : Blk w' g t cs := hk g cs t (0, 0) h ht
end
def AddE (w0 w : World) (pg mb : Nat) (fs ts is fd : Value) (us : List Sc.Us) (e : Ending) (w' : World) : Prop := e = .returned (.tuple #[]) ∧ PgS w0 w' pg mb fs ts is fd us ∧ KeepC [86, 31] w w'
theorem map_ne {w : World} {b mb n : Nat} {t : TypeId} {cs : Array Value} {fr : Nat × Nat} {k : TypeId} {R : Value → Option (DataW Unit × List MemPlace)} {D : DataW Unit} (h : w.ownsMap Tryz.prog k R mb n D) (hB : w.heap[b]? = some (.cells cs t fr)) : b ≠ mb := fun e => by
 subst e
 obtain ⟨es, clock, hb, _⟩ := h
 rw [hb] at hB
 cases hB
def AddS (pg r : Nat) (v : Value) (u : Sc.Us) (w' : World) : Prop :=
 w'.cell? ⟨pg, 3, none⟩ = some v ∧ w'.cell? ⟨r, 0, none⟩ = some (.int .i64 (u.file : Int)) ∧ w'.cell? ⟨r, 1, none⟩ = some (.int .i64 (u.at_ : Int)) ∧ w'.cell? ⟨r, 2, none⟩ = some (.int .i64 (u.as_ : Int)) ∧
 w'.cell? ⟨r, 3, none⟩ = some (.int .i64 u.toFile) ∧ w'.cell? ⟨r, 4, none⟩ = some (.int .i64 u.to_) ∧ w'.cell? ⟨r, 5, none⟩ = some (.int .i64 (u.err : Int))
theorem AddS.of {pg r : Nat} {v : Value} {u : Sc.Us} {w : World} {t : TypeId} {cs : Array Value} (hB : Blk w pg t cs) (hv : cs[3]? = some v) (hr : Blk w r 31 (usC u)) : AddS pg r v u w := by
 obtain ⟨⟨k0, k1, k2, k3, k4, k5⟩, _⟩ := six_cells hr
 exact ⟨(hB.cell 3).trans hv, k0, k1, k2, k3, k4, k5⟩
set_option maxHeartbeats 8000000 in
set_option maxRecDepth 100000 in
theorem sc_add {w0 w : World} {pg mb : Nat} {fs ts is fd : Value} {us : List Sc.Us} {u : Sc.Us} (h : PgS w0 w pg mb fs ts is fd us) (hf : u.file ≤ 1000000000) (ha : u.at_ ≤ 1000000000) (hl : us.length ≤ 1000000000) :
  Calls Tryz.prog 166 #[.pointer (some ⟨pg, 0, none⟩), .agg (usC u)] w (AddE w0 w pg mb fs ts is fd (us ++ [u])) := by
 obtain ⟨i0, ji, jz0, jz1, jz2⟩ := info_parts bd_use
 obtain ⟨kl, hkl⟩ := place_key (f := u.file) (a := u.at_) (by omega) (by omega)
 have hwl := wf_nat (a := us.length) (by omega)
 have hd1 : Below w.heap.size w (w.alloc (.cells (usC u) 31)) := (Below.refl _ _).alloc (Nat.le_refl _) _
 have hr := Blk.new w 31 (usC u)
 have h1 := h.below hd1
 obtain ⟨r, hr0⟩ : ∃ r, r = w.heap.size := ⟨_, rfl⟩
 have Hwr : Hid (∀ A c, w.ownsRow w0.heap.size 31 6 (.slice A us.length c) us.length (us.flatMap fun u => (usC u).toList) → ∀ k, (Value.slice A us.length c).ownBlock = some k → k < r) := fun A c ho k hk => by rw [hr0]; exact (ho.lt k hk).2
 obtain ⟨A, c, hB0, ho0⟩ := h.blk
 have Hor := Lib.hid (Hwr.out A c ho0)
 have Hbr : Hid (pg < r) := by show _ < _; rw [hr0]; exact hB0.lt
 have Hzr : Hid (w0.heap.size ≤ r) := by show _ ≤ _; rw [hr0]; exact h.size
 have hB1 := hB0.below hd1 hB0.lt
 have ho1 := own_of_block ho0 fun k hk => hd1.block k (ho0.lt k hk).2
 rw [← hr0] at hr
 have hl0 := Lib.hid hl
 have hc1 : KeepC [86, 31] w (w.alloc (.cells (usC u) 31)) := KeepC.below hd1
 clear h hB0 ho0 Hwr hd1 hl
 go_enter Tryz.func166, Tryz.ntmps166
 go_upto_region 1 with fail
 rw [← hr0]
 have hsz1 := World.size_alloc w (.cells (usC u) 31)
 rw [← hr0] at hsz1
 have Hsz1 := Lib.hid hsz1
 clear hr0 hsz1
 generalize w.alloc (.cells (usC u) 31) = w1 at *
 have hr1 := hr
 unfold usC at hr1
 obtain ⟨⟨k0, k1, k2, k3, k4, k5⟩, _⟩ := six_cells hr1
 have p5 := hB1.cell 5
 have p3 := hB1.cell 3
 simp at p5 p3
 obtain ⟨D, hm1, hAt⟩ := h1.map
 have HAt := Lib.hid (hAt.put hm1.isMap hf ha hkl)
 clear hAt
 have hne := map_ne hm1 hB1
 have hrn := map_ne hm1 hr
 go_still_tail 14, (by kernel_rfl)
 change wpList _ _ _ _ _ w1.drew
 have hm2 : w1.drew.ownsMap Tryz.prog 325 (plainElem Tryz.prog 3) mb us.length D := hm1
 go_wp2_with (at_mapUpdate; refine wpList_mapUpdate_own w1.drew rfl _ _ _ 84 rfl 325 3 placeLaw Tryz.underlying84 _ mb us.length D rfl hm2 (by have := hl0.out; unfold maxLen; omega) _ _ _ rfl rfl hkl _ [] (plainElem_int Tryz.underlying3 hwl) ?_; intro w2 hm3 hg2)
 have hB2 : Blk w2 pg 86 #[fs, ts, is, .slice A us.length c, fd, .map (some mb)] := Blk.grown (w := w1.drew) hB1 hg2 (by simpa using hne)
 have hr2 : Blk w2 r 31 (usC u) := Blk.grown (w := w1.drew) hr hg2 (by simpa using hrn)
 have ho2 : w2.ownsRow w0.heap.size 31 6 (.slice A us.length c) us.length (us.flatMap fun u => (usC u).toList) := own_of_block (w := w1.drew) ho1 fun k hk => by
  obtain ⟨cs, fr, h3⟩ := own_ty ho1 k hk
  exact hg2.block k (ho1.lt k hk).2 (by have := map_ne hm1 h3; simpa using this)
 have hold2 : ∀ x, x < w0.heap.size → x ≠ pg → x ≠ mb → w2.heap[x]? = w0.heap[x]? := fun x hx n1 n2 => (hg2.block x (Nat.lt_of_lt_of_le hx h1.size) (by simpa using n2)).trans (h1.old x hx n1 n2)
 have hcalm2 : Calm w0 w2 := (Calm.drew h1.calm).trans (Calm.grown hg2)
 have hc2 := (KeepC.drew hc1).trans (KeepC.grown hg2 fun g cs t fr e hk => by injection e with e; exact absurd e.symm (map_ne hm1 hk))
 have hsz2 : w0.heap.size ≤ w2.heap.size := Nat.le_trans h1.size hg2.size
 have hpl := Lib.hid h1.pl
 have hml := Lib.hid h1.ml
 have Hne := Lib.hid hne
 have Hgr : Hid (w1.heap.size ≤ w2.heap.size) := hg2.size
 have Hs1 : Hid (w1.heap.size = r + 1) := Hsz1
 clear hc1 h1 hB1 ho1 hm1 hm2 hr hr1 k0 k1 k2 k3 k4 k5 p5 p3 hg2 hrn hne
 refine wp_region_G 10 (AddS pg r (.slice A us.length c) u) (by kernel_rfl) ?_
 have hB3 := hB2.drew
 have hr3 := hr2.drew
 have ho3 : w2.drew.ownsRow w0.heap.size 31 6 (.slice A us.length c) us.length (us.flatMap fun u => (usC u).toList) := ho2
 have hold3 : ∀ x, x < w0.heap.size → x ≠ pg → x ≠ mb → w2.drew.heap[x]? = w0.heap[x]? := hold2
 have hcalm3 := Calm.drew hcalm2
 have hc3 := KeepC.drew hc2
 have hsz3 : w0.heap.size ≤ w2.drew.heap.size := hsz2
 have hmm3 : w2.drew.ownsMap Tryz.prog 325 (plainElem Tryz.prog 3) mb (us.length + 1) _ := hm3
 have Hr3 : Hid (r < w2.drew.heap.size) := by have := Hs1.out; have := Hgr.out; show r < w2.heap.size; omega
 clear hc2 hB2 hr2 ho2 hold2 hcalm2 hsz2 hm3 Hgr
 generalize w2.drew = w3 at *
 have hS0 : AddS pg r (.slice A us.length c) u w3 := AddS.of hB3 rfl hr3
 refine wpAnyG_tk 0 hS0 ?_
 simp only [Act.put, List.setIfInBounds_toArray]
 refine wpAnyG_tk 1 hS0 ?_
 simp only [Act.put]
 refine wpAnyG_tk 2 hS0 ?_
 simp only [Act.put]
 refine wpAnyG_tk 3 hS0 ?_
 simp only [Act.put]
 refine wpAnyG_tk 4 hS0 ?_
 simp only [Act.put]
 refine wpAnyG_tk 5 hS0 ?_
 simp only [Act.put]
 clear hS0
 have hB4 := hB3.alloc (.cells (usC u) 31)
 have hr4 := hr3.alloc (.cells (usC u) 31)
 have hS4 := Lib.hid (AddS.of hB4 (v := .slice A us.length c) rfl hr4)
 clear hB4 hr4
 unfold usC at hS4
 refine wpAnyG_on 6 fun C hC => ?_
 go_simp
 refine hC.out _ _ (fun _ => hS4.out) ?_
 clear hC C
 have Hq := Lib.hid (World.size_alloc w3 (.cells (usC u) 31))
 refine wpAnyG_on 7 fun C hC => ?_
 refine step_push w3 (by rfl) _ _ 24 (by rfl) w0.heap.size 31 6 48 Tryz.underlying24 ji jz0 jz1 jz2 rfl (by omega) (by rfl) ho3 (usC u) (by rfl) rfl (by simp [usC, Value.oneCell']) hl0.out (by omega) hsz3 ?_
 intro A' c' w5 ho5 hd5 hg5
 have hB5 : Blk w5 pg 86 #[fs, ts, is, .slice A us.length c, fd, .map (some mb)] := hB3.grown hg5 (own_ne ho3 hB3 (by decide))
 have hr5 : Blk w5 r 31 (usC u) := hr3.grown hg5 fun e => by have := Hor.out r e.symm; omega
 have hS5 := Lib.hid (AddS.of hB5 (v := .slice A us.length c) rfl hr5)
 have hm5 := hmm3.kept hg5 fun e => by
  obtain ⟨cs, fr, h3⟩ := own_ty ho3 mb e.symm
  exact map_ne hmm3 h3 rfl
 have hold5 : ∀ x, x < w0.heap.size → x ≠ pg → x ≠ mb → w5.heap[x]? = w0.heap[x]? := fun x hx n1 n2 => (hd5.block x hx).trans (hold3 x hx n1 n2)
 have hc5 := hc3.trans (KeepC.grown hg5 fun g cs t fr e hk => by
  obtain ⟨cs', fr', h3⟩ := own_ty ho3 g e
  rw [hk] at h3
  injection h3 with h3
  injection h3 with _ h3 _
  simp [h3])
 have hcalm5 := hcalm3.trans (Calm.below hd5)
 have hsz5 := Nat.le_trans hsz3 hd5.size
 refine hC.out _ _ (fun _ => hS5.out) ?_
 clear hc3 hC C hB3 hr3 ho3 hold3 hcalm3 hsz3 hmm3 hS4 hd5 hg5 hr5
 refine wpAnyG_on 8 fun C hC => ?_
 go_simp
 refine hC.out _ _ (fun _ => hS5.out) ?_
 clear hC C
 refine wpAnyG_on 9 fun C hC => ?_
 go_simp
 refine hC.out _ _ (fun _ => hS5.out) ?_
 clear hC C
 have p3 := hB5.cell 3
 have y3 := hB5.frozen 3
 simp at p3
 refine wpAnyG_on 10 fun C hC => ?_
 go_simp
 refine hC.out _ _ (fun h => absurd rfl h) ?_
 clear hC C
 refine wpAnyG_done (by kernel_rfl) ?_ _
 have hB6 := hB5.set_ 3 (.slice A' (us.length + 1) c')
 simp at hB6
 have hk6 := grown_set w5 pg 3 (.slice A' (us.length + 1) c')
 have ho6 := own_of_block ho5 fun k hk => hk6.block k (ho5.lt k hk).2 fun e => by
  injection e with e
  have := (ho5.lt k hk).1
  have := hpl.out
  omega
 have hm6 := hm5.kept hk6 (by simpa using Ne.symm Hne.out)
 have hold6 : ∀ x, x < w0.heap.size → x ≠ pg → x ≠ mb → (w5.setCell ⟨pg, 3, none⟩ (.slice A' (us.length + 1) c')).heap[x]? = w0.heap[x]? := fun x hx n1 n2 => (hk6.block x (Nat.lt_of_lt_of_le hx hsz5) (by simpa using n1)).trans (hold5 x hx n1 n2)
 have hc6 := hc5.trans (KeepC.grown hk6 fun g cs t fr e hk => by
  injection e with e
  subst e
  unfold Blk at hB5
  rw [hk] at hB5
  injection hB5 with h3
  injection h3 with _ h3 _
  simp [h3])
 have hcalm6 := hcalm5.trans (Calm.grown hk6)
 have hsz6 := Nat.le_trans hsz5 hk6.size
 clear hc5 hB5 ho5 hm5 hold5 hcalm5 hsz5 p3 y3 hS5 hk6
 go_wp2_with fail
 go_end0
 refine ⟨rfl, ⟨hsz6, hold6, hcalm6, ⟨A', c', ?_, ?_⟩, ⟨D.put kl (.lit (.int .i64 (us.length : Int))), ?_, HAt.out⟩, hpl.out, hml.out⟩, hc6⟩
 ·rw [List.length_append]; exact hB6
 ·rw [List.length_append, List.flatMap_append, List.flatMap_singleton]; exact ho6
 ·rw [List.length_append]; exact hm6
end Go.Proofs.YtcjjfeephaddcaaGreatDoor
