/-
  JOINED of the texts ZB ZC ZE TY ZG ZJ ZM
-/
import Derived.Test.YtalklmeejdmifaaGreatDoorJak
namespace Go.Proofs.YtalklmeejdmifaaGreatDoor.Tr
structure Lo (T : List (Nat × Nat × Nat)) (o o' m : Nat) (E : Prop) (f f' : Nat → PT × Nat) : Prop where
 adv : ∀ j, j ≤ T.length → j ≤ (f j).2 ∧ (f j).2 ≤ T.length
 eq : ∀ j, o ≤ j → j ≤ T.length → LA T o m E (f j).2 → f' (sh o o' j) = ((f j).1, sh o o' (f j).2)
theorem one_ite (c : Prop) [Decidable c] (x y : PT × Nat) : oneP (if c then x else y) = if c then oneP x else oneP y := by split <;> rfl
section
variable {s : List UInt8} {T : List (Nat × Nat × Nat)} {b : Nat} {s' : List UInt8} {T' : List (Nat × Nat × Nat)} {b' o o' m : Nat} {E : Prop}
theorem Lo.toLf {f f' : Nat → PT × Nat} (h : Lo T o o' m E f f') : Lf T o o' m E (fun i => oneP (f i)) (fun i => oneP (f' i)) :=
 ⟨h.adv, fun j ho hj hL => by show oneP (f' (sh o o' j)) = _; rw [h.eq j ho hj hL]; rfl⟩
theorem Lo.of {f f' : Nat → PT × Nat} (ha : Goes T f) (h : ∀ j, o ≤ j → j ≤ T.length → Ls T o o' m E j (oneP (f j)) (oneP (f' (sh o o' j)))) : Lo T o o' m E f f' :=
 ⟨ha, fun j ho hj hL => by
  have e := (h j ho hj).eq hL
  have e1 : ([(f' (sh o o' j)).1], (f' (sh o o' j)).2) = ([(f j).1], sh o o' (f j).2) := e
  injection e1 with e1 e2
  injection e1 with e1
  exact Prod.ext e1 e2⟩
theorem sh_le (H : Agr s T b s' T' b' o o' m E) {j : Nat} (h : LA T o m E j) (hj : j ≤ T.length) : sh o o' j ≤ T'.length := by
 have h1 := h.le H hj
 have h2 := H.len'
 unfold sh
 omega
variable (H : Agr s T b s' T' b' o o' m E)
include H
theorem name_loc : Lf T o o' m E (nameP s T b) (nameP s' T' b') := Lf.of (name_adv s T b) fun j ho hj => by
 have ht := (take_loc H).at_ ho hj
 have hm := (miss_loc H sName).at_ ho hj
 have hc : ∀ w : St, j ≤ w.2 → LA T o m E w.2 → kindP T' (nextP T' (sh o o' j)) = kindP T (nextP T j) := fun w hw hL => (kind_loc H ho hj (hL.mono hw)).1
 unfold nameP
 cases hi : kindP T (nextP T j) == 3 with
 | true =>
  rw [if_pos rfl]
  exact ⟨ht.up, ht.le, ho, fun hL => by rw [hc _ ht.up hL, hi, if_pos rfl]; exact ht.eq hL⟩
 | false =>
  rw [if_neg (by simp)]
  exact ⟨hm.up, hm.le, ho, fun hL => by rw [hc _ hm.up hL, hi, if_neg (by simp)]; exact hm.eq hL⟩
theorem round_loc {one one' : Nat → St} (ho : Lf T o o' m E one one') {i : Nat} {st st' : St} (h : Ls T o o' m E i st st') : Ls T o o' m E i (roundP s T b one st) (roundP s' T' b' one' st') := (h.thn (take_loc H)).thn ho
theorem many_eq {one one' : Nat → St} (hl : Lf T o o' m E one one') (ha : Adv T one 1) (ha' : Adv T' one' 1) : ∀ (n : Nat) (st : St), T.length - st.2 ≤ n → o ≤ st.2 → st.2 ≤ T.length → LA T o m E (manyP s T b one (T.length + 1) st).2 →
  manyP s' T' b' one' (T'.length + 1) (st.1, sh o o' st.2) = ((manyP s T b one (T.length + 1) st).1, sh o o' (manyP s T b one (T.length + 1) st).2)
 | n, st, hn, ho, hj, hL => by
  have h0 := many_adv s T b ha (T.length + 1) st hj
  have hL0 := hL.mono h0.1
  have hi' := is_loc H ho hj hL0 [[44]]
  cases hi : isP s T [[44]] st.2 with
  | false =>
   rw [many_stop s T b one st hi, many_stop s' T' b' one' _ (by dsimp only; rw [hi', hi])]
  | true =>
   have hr := round_adv s T b ha st hj (is_lt s T hi)
   have hsh := sh_le H hL0 hj
   rw [many_step s T b ha st hj hi] at hL ⊢
   rw [many_step s' T' b' ha' _ hsh (by dsimp only; rw [hi', hi])]
   have hLr := hL.mono (many_adv s T b ha (T.length + 1) _ hr.2.1).1
   have e := (round_loc H hl (i := st.2) (st := st) (st' := (st.1, sh o o' st.2)) ⟨Nat.le_refl _, hj, ho, fun _ => rfl⟩).eq hLr
   rw [e]
   match n, hn with
   | 0, hn => omega
   | n + 1, hn => exact many_eq hl ha ha' n _ (by omega) (by omega) hr.2.1 hL
theorem many_loc {one one' : Nat → St} (hl : Lf T o o' m E one one') (ha : Adv T one 1) (ha' : Adv T' one' 1) {i : Nat} {st st' : St} (h : Ls T o o' m E i st st') : Ls T o o' m E i (manyP s T b one (T.length + 1) st) (manyP s' T' b' one' (T'.length + 1) st') := by
 have h0 := many_adv s T b ha (T.length + 1) st h.le
 exact ⟨Nat.le_trans h.up h0.1, h0.2.1, h.from_, fun hL => by
  rw [h.eq (hL.mono h0.1)]
  exact many_eq H hl ha ha' _ st (Nat.le_refl _) (Nat.le_trans h.from_ h.up) h.le hL⟩
theorem params_loc : Lo T o o' m E (paramsP s T b) (paramsP s' T' b') := Lo.of (params_goes s T b) fun j ho hj => by
 have h1 := (want_loc H [40]).at_ ho hj
 have hn := h1.thn (name_loc H)
 have h2 := many_loc H (name_loc H) (name_adv s T b) (name_adv s' T' b') hn
 have hup := (name_adv s T b (wantP s T b [40] j).2 h1.le).1
 have h3 := many_adv s T b (name_adv s T b) (T.length + 1) (thn (wantP s T b [40] j) (nameP s T b)) hn.le
 have h4 := (Ls.ite H (l := [[41]]) h1 h2 h1 (Nat.le_refl _) (Nat.le_trans hup h3.1)).thn (want_loc H [41])
 exact h4.br H hj
theorem list_loc {e e' : Nat → St} (he : Lf T o o' m E e e') (ha : Adv T e 1) (ha' : Adv T' e' 1) (kind : Nat) (shut : List UInt8) : Lo T o o' m E (listP s T b e kind shut) (listP s' T' b' e' kind shut) := Lo.of (list_goes s T b ha kind shut) fun j ho hj => by
 have h1 := (take_loc H).at_ ho hj
 have hn := h1.thn he
 have h2 := many_loc H he ha ha' hn
 have hup := (ha (takeP s T b j).2 h1.le).1
 have h3 := many_adv s T b ha (T.length + 1) (thn (takeP s T b j) e) hn.le
 have h4 := (Ls.ite H (l := [shut]) h1 h2 h1 (Nat.le_refl _) (Nat.le_trans hup h3.1)).thn (want_loc H shut)
 exact h4.br H hj
theorem part_loc {e e' : Nat → St} (he : Lf T o o' m E e e') (ha : Adv T e 1) (ha' : Adv T' e' 1) : Lo T o o' m E (partP s T b e) (partP s' T' b' e') := Lo.of (part_goes s T b ha) fun j ho hj => by
 have ht := (take_loc H).at_ ho hj
 have hgap : Ls T o o' m E j (oneP (.gap sExpr (placeP s T b j) false, j)) (oneP (.gap sExpr (placeP s' T' b' (sh o o' j)) false, sh o o' j)) := ⟨Nat.le_refl _, hj, ho, fun hL => by
  have hL : LA T o m E j := hL
  rw [place_loc H ho hj hL]; rfl⟩
 have h1 := ((ht.thn he).thn (want_loc H [41])).br H (kind := 14) hj
 have h2 := (list_loc H he ha ha' 13 [93]).toLf.at_ ho hj
 have h3 := Ls.ite H (l := [[91]]) (v := ([], j)) (v' := ([], sh o o' j)) h2 hgap (Ls.nil ho hj) h2.up (Nat.le_refl _)
 have h4 := Ls.ite H (l := [[40]]) (v := ([], j)) (v' := ([], sh o o' j)) h1 h3 (Ls.nil ho hj) h1.up h3.up
 have h5 := fun k => ht.br H (kind := k) hj
 have hc : ∀ w : St, j ≤ w.2 → LA T o m E w.2 → leafK (kindP T' (nextP T' (sh o o' j))) (textP s' T' (nextP T' (sh o o' j))) = leafK (kindP T (nextP T j)) (textP s T (nextP T j)) := fun w hw hL => by
  obtain ⟨a, b⟩ := kind_loc H ho hj (hL.mono hw)
  rw [a, b]
 unfold partP
 rw [one_ite, one_ite, one_ite, one_ite, one_ite, one_ite]
 by_cases hk : 0 < leafK (kindP T (nextP T j)) (textP s T (nextP T j))
 ·rw [if_pos hk]
  have h6 := h5 (leafK (kindP T (nextP T j)) (textP s T (nextP T j)))
  exact ⟨h6.up, h6.le, ho, fun hL => by rw [hc _ h6.up hL, if_pos hk]; exact h6.eq hL⟩
 ·rw [if_neg hk]
  exact ⟨h4.up, h4.le, ho, fun hL => by rw [hc _ h4.up hL, if_neg hk]; exact h4.eq hL⟩
theorem calls_eq {e e' : Nat → St} (he : Lf T o o' m E e e') (ha : Adv T e 1) (ha' : Adv T' e' 1) : ∀ (n : Nat) (r : PT × Nat), T.length - r.2 ≤ n → o ≤ r.2 → r.2 ≤ T.length → LA T o m E (callsP s T b e (T.length + 1) r).2 →
  callsP s' T' b' e' (T'.length + 1) (r.1, sh o o' r.2) = ((callsP s T b e (T.length + 1) r).1, sh o o' (callsP s T b e (T.length + 1) r).2)
 | n, r, hn, ho, hj, hL => by
  have h0 := calls_goes s T b ha (T.length + 1) r hj
  have hL0 := hL.mono h0.1
  have hi' := is_loc H ho hj hL0 [[40]]
  cases hi : isP s T [[40]] r.2 with
  | false => rw [calls_stop s T b e r hi, calls_stop s' T' b' e' _ (by dsimp only; rw [hi', hi])]
  | true =>
   have hsh := sh_le H hL0 hj
   have hg := list_goes s T b ha 12 [41] r.2 hj
   have hgt : r.2 < (listP s T b e 12 [41] r.2).2 := by
    have h1 := to_gt T r.2 (is_lt s T hi)
    have h2 := take_adv s T b r.2 hj
    have h3 : (takeP s T b r.2).2 = toP T r.2 := rfl
    have hn1 := (ha (takeP s T b r.2).2 h2.2.1)
    have hm := many_adv s T b ha (T.length + 1) (thn (takeP s T b r.2) e) hn1.2.1
    have h4 : (thn (takeP s T b r.2) e).2 = (e (takeP s T b r.2).2).2 := rfl
    have h5 : (listP s T b e 12 [41] r.2).2 = (wantP s T b [41] (if isP s T [[41]] (takeP s T b r.2).2 then takeP s T b r.2 else manyP s T b e (T.length + 1) (thn (takeP s T b r.2) e)).2).2 := rfl
    rw [h5]
    have h6 : (takeP s T b r.2).2 ≤ (if isP s T [[41]] (takeP s T b r.2).2 then takeP s T b r.2 else manyP s T b e (T.length + 1) (thn (takeP s T b r.2) e)).2 ∧ (if isP s T [[41]] (takeP s T b r.2).2 then takeP s T b r.2 else manyP s T b e (T.length + 1) (thn (takeP s T b r.2) e)).2 ≤ T.length := by
     split
     ·exact ⟨Nat.le_refl _, h2.2.1⟩
     ·exact ⟨by omega, hm.2.1⟩
    have h7 := (want_adv s T b [41] _ h6.2).1
    omega
   rw [calls_step s T b ha r hj hi] at hL ⊢
   rw [calls_step s' T' b' ha' _ hsh (by dsimp only; rw [hi', hi])]
   have hrl : (callR s T b e r).2 = (listP s T b e 12 [41] r.2).2 := rfl
   have hLr := hL.mono (calls_goes s T b ha (T.length + 1) (callR s T b e r) (by rw [hrl]; exact hg.2)).1
   have el := (list_loc H he ha ha' 12 [41]).eq r.2 ho hj hLr
   have er : callR s' T' b' e' (r.1, sh o o' r.2) = ((callR s T b e r).1, sh o o' (callR s T b e r).2) := by
    unfold callR
    dsimp only
    rw [el]
   rw [er]
   match n, hn with
   | 0, hn => omega
   | n + 1, hn => exact calls_eq he ha ha' n _ (by rw [hrl]; omega) (by rw [hrl]; omega) (by rw [hrl]; exact hg.2) hL
theorem call_loc {e e' : Nat → St} (he : Lf T o o' m E e e') (ha : Adv T e 1) (ha' : Adv T' e' 1) : Lo T o o' m E (callP s T b e) (callP s' T' b' e') where
 adv := call_goes s T b ha
 eq := fun j ho hj hL => by
  have hp := part_goes s T b ha j hj
  unfold callP at hL ⊢
  have h0 := calls_goes s T b ha (T.length + 1) (partP s T b e j) hp.2
  rw [(part_loc H he ha ha').eq j ho hj (hL.mono h0.1)]
  exact calls_eq H he ha ha' _ _ (Nat.le_refl _) (by omega) hp.2 hL
end
section
variable {s : List UInt8} {T : List (Nat × Nat × Nat)} {b : Nat} {s' : List UInt8} {T' : List (Nat × Nat × Nat)} {b' o o' m : Nat} {E : Prop}
variable (H : Agr s T b s' T' b' o o' m E)
include H
theorem bin_eq {one one' : Nat → PT × Nat} (hl : Lo T o o' m E one one') (r : PT × Nat) (ho : o ≤ r.2) (hj : r.2 ≤ T.length) (hL : LA T o m E (binP s T b one r).2) : binP s' T' b' one' (r.1, sh o o' r.2) = ((binP s T b one r).1, sh o o' (binP s T b one r).2) := by
 have h := (((take_loc H).at_ ho hj).thn hl.toLf).eq hL
 unfold binP
 dsimp only
 rw [h]
theorem rows_eq {one one' : Nat → PT × Nat} (hl : Lo T o o' m E one one') (hg' : Goes T' one') (signs : List (List UInt8)) : ∀ (n : Nat) (r : PT × Nat), T.length - r.2 ≤ n → o ≤ r.2 → r.2 ≤ T.length → LA T o m E (rowsP s T b one signs (T.length + 1) r).2 →
  rowsP s' T' b' one' signs (T'.length + 1) (r.1, sh o o' r.2) = ((rowsP s T b one signs (T.length + 1) r).1, sh o o' (rowsP s T b one signs (T.length + 1) r).2)
 | n, r, hn, ho, hj, hL => by
  have hg : Goes T one := hl.adv
  have h0 := rows_goes s T b hg signs (T.length + 1) r hj
  have hL0 := hL.mono h0.1
  have hi' := is_loc H ho hj hL0 signs
  cases hi : isP s T signs r.2 with
  | false => rw [rows_stop s T b one signs r hi, rows_stop s' T' b' one' signs _ (by dsimp only; rw [hi', hi])]
  | true =>
   have hsh := sh_le H hL0 hj
   have hbg := bin_goes s T b hg r hj
   have hgt : r.2 < (binP s T b one r).2 := by
    have h1 := to_gt T r.2 (is_lt s T hi)
    have h2 := take_adv s T b r.2 hj
    have h3 : (takeP s T b r.2).2 = toP T r.2 := rfl
    have h4 := hg (takeP s T b r.2).2 h2.2.1
    have h5 : (binP s T b one r).2 = (one (takeP s T b r.2).2).2 := rfl
    omega
   rw [rows_step s T b hg signs r hj hi] at hL ⊢
   rw [rows_step s' T' b' hg' signs _ hsh (by dsimp only; rw [hi', hi])]
   have hLr := hL.mono (rows_goes s T b hg signs (T.length + 1) _ hbg.2).1
   rw [bin_eq H hl r ho hj hLr]
   match n, hn with
   | 0, hn => omega
   | n + 1, hn => exact rows_eq hl hg' signs n _ (by omega) (by omega) hbg.2 hL
theorem row_loc {one one' : Nat → PT × Nat} (hl : Lo T o o' m E one one') (hg' : Goes T' one') (signs : List (List UInt8)) : Lo T o o' m E (rowP s T b one signs) (rowP s' T' b' one' signs) where
 adv := row_goes s T b hl.adv signs
 eq := fun j ho hj hL => by
  have hp := hl.adv j hj
  unfold rowP at hL ⊢
  have h0 := rows_goes s T b hl.adv signs (T.length + 1) (one j) hp.2
  rw [hl.eq j ho hj (hL.mono h0.1)]
  exact rows_eq H hl hg' signs _ _ (Nat.le_refl _) (by omega) hp.2 hL
theorem sum_loc {e e' : Nat → St} (he : Lf T o o' m E e e') (ha : Adv T e 1) (ha' : Adv T' e' 1) : Lo T o o' m E (sumP s T b e) (sumP s' T' b' e') :=
 row_loc H (row_loc H (call_loc H he ha ha') (call_goes s' T' b' ha') [[42]]) (product_goes s' T' b' ha') [[43], [45], [43, 43]]
theorem comp_loc {e e' : Nat → St} (he : Lf T o o' m E e e') (ha : Adv T e 1) (ha' : Adv T' e' 1) : Lo T o o' m E (compP s T b e) (compP s' T' b' e') where
 adv := comp_goes s T b ha
 eq := fun j ho hj hL => by
  have hs := sum_loc H he ha ha'
  have hp := hs.adv j hj
  unfold compP at hL ⊢
  cases hi : isP s T [[61, 61], [60]] (sumP s T b e j).2 with
  | true =>
   rw [hi, if_pos rfl] at hL
   have hb := bin_goes s T b hs.adv (sumP s T b e j) hp.2
   have hL1 := hL.mono hb.1
   rw [hs.eq j ho hj hL1]
   dsimp only
   rw [is_loc H (by omega) hp.2 hL1, hi, if_pos rfl, if_pos rfl]
   exact bin_eq H hs _ (by omega) hp.2 hL
  | false =>
   rw [hi, if_neg (by simp)] at hL
   rw [hs.eq j ho hj hL]
   dsimp only
   rw [is_loc H (by omega) hp.2 hL, hi, if_neg (by simp), if_neg (by simp)]
theorem expr_loc : ∀ f, Lo T o o' m E (exprP s T b f) (exprP s' T' b' f)
 | 0 => Lo.of (expr_goes s T b 0) fun j ho hj => ⟨Nat.le_refl _, hj, ho, fun hL => by
  have hL : LA T o m E j := hL
  unfold exprP oneP
  dsimp only
  rw [place_loc H ho hj hL]⟩
 | f + 1 => Lo.of (expr_goes s T b (f + 1)) fun j ho hj => by
  have hl := expr_loc f
  have he : Lf T o o' m E (fun i => oneP (exprP s T b f i)) (fun i => oneP (exprP s' T' b' f i)) := hl.toLf
  have ha := expr_adv s T b f
  have ha' := expr_adv s' T' b' f
  have ht := (take_loc H).at_ ho hj
  have h1 := ((((((ht.thn (name_loc H)).thn (want_loc H [61])).thn he).thn (want_loc H sIn)).thn he).br H (kind := 7) hj)
  have h2 := ((((((ht.thn he).thn (want_loc H sThen)).thn he).thn (want_loc H sElse)).thn he).br H (kind := 8) hj)
  have h3 := ((((ht.thn (params_loc H).toLf).thn (want_loc H [61, 62])).thn he).br H (kind := 9) hj)
  have h4 := (comp_loc H he ha ha').toLf.at_ ho hj
  have h5 := Ls.ite H (l := [sFun]) (v := ([], j)) (v' := ([], sh o o' j)) h3 h4 (Ls.nil ho hj) h3.up h4.up
  have h6 := Ls.ite H (l := [sIf]) (v := ([], j)) (v' := ([], sh o o' j)) h2 h5 (Ls.nil ho hj) h2.up h5.up
  have h7 := Ls.ite H (l := [sLet]) (v := ([], j)) (v' := ([], sh o o' j)) h1 h6 (Ls.nil ho hj) h1.up h6.up
  rw [exprP, exprP, one_ite, one_ite, one_ite, one_ite, one_ite, one_ite]
  exact h7
theorem pub_loc : Lf T o o' m E (pubP s T b) (pubP s' T' b') := Lf.of (pub_adv s T b) fun j ho hj => by
 have ht := (take_loc H).at_ ho hj
 unfold pubP
 exact Ls.ite H (l := [sPub]) (v := ([], j)) (v' := ([], sh o o' j)) ht (Ls.nil ho hj) (Ls.nil ho hj) ht.up (Nat.le_refl _)
theorem use_loc {i : Nat} {st st' : St} (h : Ls T o o' m E i st st') : Ls T o o' m E i (useP s T b st) (useP s' T' b' st') := by
 unfold useP
 have h4 := (((h.thn (want_loc H sUse)).thn (name_loc H)).thn (want_loc H [46])).thn (name_loc H)
 have h5 := (h4.thn (take_loc H)).thn (name_loc H)
 have a1 := (take_adv s T b _ h4.le).1
 have a2 := (name_adv s T b _ ((take_adv s T b _ h4.le).2.1)).1
 exact (Ls.ite H (l := [sAs]) h5 h4 h4 (Nat.le_trans a1 a2) (Nat.le_refl _)).thn (want_loc H [59])
theorem def_loc {i : Nat} {st st' : St} (h : Ls T o o' m E i st st') : Ls T o o' m E i (defP s T b st) (defP s' T' b' st') := by
 unfold defP
 have h4 := (h.thn (want_loc H sDef)).thn (name_loc H)
 have h5 := h4.thn (params_loc H).toLf
 have a1 := (params_goes s T b _ h4.le).1
 exact (((Ls.ite H (l := [[40]]) h5 h4 h4 a1 (Nat.le_refl _)).thn (want_loc H [61])).thn (expr_loc H 65).toLf).thn (want_loc H [59])
theorem item_loc : Lo T o o' m E (itemP s T b) (itemP s' T' b') := Lo.of (item_goes s T b) fun j ho hj => by
 have h0 := (pub_loc H).at_ ho hj
 have h1 := (use_loc H h0).br H (kind := 3) hj
 have h2 := (def_loc H h0).br H (kind := 4) hj
 have hu := use_ge s T b h0.le
 have hd := def_ge s T b h0.le
 have hu1 := (want_adv s T b sUse (pubP s T b j).2 h0.le).1
 have hd1 := (want_adv s T b sDef (pubP s T b j).2 h0.le).1
 unfold itemP
 rw [one_ite, one_ite]
 exact Ls.ite H (l := [sUse]) h1 h2 h0 (Nat.le_trans hu1 hu) (Nat.le_trans hd1 hd)
theorem start_loc {j : Nat} (ho : o ≤ j) (hj : j ≤ T.length) (h : LA T o m E j) : startP s' T' (sh o o' j) = startP s T j := is_loc H ho hj h _
theorem more_loc {j : Nat} (ho : o ≤ j) (hj : j ≤ T.length) (h : LA T o m E j) : nextP T' (sh o o' j) < T'.length ↔ nextP T j < T.length := by
 rw [next_loc H _ j (Nat.le_refl _) ho hj h]
 have h0 := next_ge T j
 have h1 := H.len
 have h2 := H.len'
 rcases h with h | h
 ·unfold sh; omega
 ·obtain ⟨e1, e2, _⟩ := H.fin h
  unfold sh; omega
theorem junks_eq : ∀ (n : Nat) (last : Bool) (st : St), T.length - st.2 ≤ n → o ≤ st.2 → st.2 ≤ T.length → LA T o m E (junksP s T b (T.length + 1) last st).2 →
  junksP s' T' b' (T'.length + 1) last (st.1, sh o o' st.2) = ((junksP s T b (T.length + 1) last st).1, sh o o' (junksP s T b (T.length + 1) last st).2)
 | n, last, st, hn, ho, hj, hL => by
  have h0 := junks_adv s T b (T.length + 1) last st hj
  have hL0 := hL.mono h0.1
  have hst := start_loc H ho hj hL0
  have hmo := more_loc H ho hj hL0
  by_cases hi : last = false ∧ nextP T st.2 < T.length ∧ startP s T st.2 = false
  ·have hsh := sh_le H hL0 hj
   have hr := take_st s T b st hj hi.2.1
   rw [junks_step s T b last st hj hi] at hL ⊢
   rw [junks_step s' T' b' last _ hsh (by dsimp only; rw [hst]; exact ⟨hi.1, hmo.2 hi.2.1, hi.2.2⟩)]
   have hLr := hL.mono (junks_adv s T b (T.length + 1) _ _ hr.2.1).1
   have e := ((⟨Nat.le_refl _, hj, ho, fun _ => rfl⟩ : Ls T o o' m E st.2 st (st.1, sh o o' st.2)).thn (take_loc H)).eq hLr
   have e2 := is_loc H ho hj hL0 [[59]]
   rw [e]
   dsimp only
   rw [e2]
   match n, hn with
   | 0, hn => omega
   | n + 1, hn => exact junks_eq n _ _ (by omega) (by omega) hr.2.1 hL
  ·rw [junks_stop s T b last st hi, junks_stop s' T' b' last _ (by dsimp only; rw [hst, hmo]; exact hi)]
theorem junk_loc : Lo T o o' m E (junkP s T b) (junkP s' T' b') where
 adv := junk_goes s T b
 eq := fun j ho hj hL => by
  have h0 := junks_adv s T b (T.length + 1) false ([], j) hj
  have e := junks_eq H _ false ([], j) (Nat.le_refl _) ho hj hL
  have hLj := hL.mono h0.1
  unfold junkP brP
  dsimp only at e ⊢
  rw [e, place_loc H ho hj hLj]
end
theorem kid_loc {s : List UInt8} {T : List (Nat × Nat × Nat)} {s' : List UInt8} {T' : List (Nat × Nat × Nat)} {o o' m : Nat} {E : Prop} (H : Agr s T (absP s T o) s' T' (absP s' T' o') o o' m E) (ho : o ≤ T.length) (hL : LA T o m E (kidP s T o).2) :
  kidP s' T' o' = ((kidP s T o).1, sh o o' (kidP s T o).2) := by
 have hs : sh o o' o = o' := by unfold sh; omega
 have hg := kid_goes s T o ho
 have hst := start_loc H (Nat.le_refl _) ho (hL.mono hg.1)
 rw [hs] at hst
 unfold kidP at hL ⊢
 rw [hst]
 split
 ·rename_i h
  rw [if_pos h] at hL
  have := (item_loc H).eq o (Nat.le_refl _) ho hL
  rwa [hs] at this
 ·rename_i h
  rw [if_neg h] at hL
  have := (junk_loc H).eq o (Nat.le_refl _) ho hL
  rwa [hs] at this
def frmK (ks : List Kd) : Nat → Nat
 | 0 => 0
 | j + 1 => (ks[j]?.map (·.last)).getD 0
theorem frmK_succ (ks : List Kd) (j : Nat) (h : j < ks.length) : frmK ks (j + 1) = ks[j].last := by show (ks[j]?.map (·.last)).getD 0 = _; rw [List.getElem?_eq_getElem h]; rfl
section
variable (s : List UInt8) (T : List (Nat × Nat × Nat))
def ksP : List Kd := (kidsP s T (T.length + 1) 0).1
theorem kids_at : ∀ j, j ≤ (ksP s T).length → frmK (ksP s T) j ≤ T.length ∧ kidsP s T (T.length + 1) (frmK (ksP s T) j) = ((ksP s T).drop j, (kidsP s T (T.length + 1) 0).2)
 | 0, _ => ⟨Nat.zero_le _, by show kidsP s T (T.length + 1) 0 = _; rw [List.drop_zero]; rfl⟩
 | j + 1, h => by
  obtain ⟨h1, h2⟩ := kids_at j (by omega)
  rw [List.drop_eq_getElem_cons (by omega : j < (ksP s T).length)] at h2
  rw [frmK_succ _ j (by omega)]
  by_cases hn : nextP T (frmK (ksP s T) j) < T.length
  ·rw [kids_step s T _ h1 hn] at h2
   injection h2 with e1 e2
   injection e1 with e1 e3
   have hl : (ksP s T)[j].last = (kidP s T (frmK (ksP s T) j)).2 := by rw [← e1]; rfl
   rw [hl]
   exact ⟨(kid_goes s T _ h1).2, Prod.ext e3 e2⟩
  ·rw [kids_stop s T _ hn] at h2
   injection h2 with e1 e2
   cases e1
theorem kid_at (j : Nat) (h : j < (ksP s T).length) : (ksP s T)[j] = kdP s T (frmK (ksP s T) j) ∧ nextP T (frmK (ksP s T) j) < T.length ∧ frmK (ksP s T) (j + 1) = (kidP s T (frmK (ksP s T) j)).2 := by
 obtain ⟨h1, h2⟩ := kids_at s T j (by omega)
 rw [List.drop_eq_getElem_cons h] at h2
 rw [frmK_succ _ j h]
 by_cases hn : nextP T (frmK (ksP s T) j) < T.length
 ·rw [kids_step s T _ h1 hn] at h2
  injection h2 with e1 e2
  injection e1 with e1 e3
  exact ⟨e1.symm, hn, by rw [← e1]; rfl⟩
 ·rw [kids_stop s T _ hn] at h2
  injection h2 with e1 e2
  cases e1
theorem frm_lt (j : Nat) (h : j < (ksP s T).length) : frmK (ksP s T) j < frmK (ksP s T) (j + 1) := by
 obtain ⟨_, h2, h3⟩ := kid_at s T j h
 rw [h3]
 exact kid_gt s T _ (kids_at s T j (by omega)).1 h2
theorem frm_mono {i : Nat} : ∀ {j : Nat}, i ≤ j → j ≤ (ksP s T).length → frmK (ksP s T) i ≤ frmK (ksP s T) j
 | 0, h, _ => by obtain rfl : i = 0 := by omega
                 exact Nat.le_refl _
 | j + 1, h, hj => by
  rcases Nat.eq_or_lt_of_le h with rfl | hlt
  ·exact Nat.le_refl _
  ·have := frm_mono (i := i) (j := j) (by omega) (by omega)
   have := frm_lt s T j (by omega)
   omega
theorem first_at (j : Nat) (h : j < (ksP s T).length) : (ksP s T)[j].first = frmK (ksP s T) j := by rw [(kid_at s T j h).1]; rfl
theorem frm_end : frmK (ksP s T) (ksP s T).length = (kidsP s T (T.length + 1) 0).2 ∧ ¬ nextP T (frmK (ksP s T) (ksP s T).length) < T.length := by
 obtain ⟨h1, h2⟩ := kids_at s T _ (Nat.le_refl _)
 rw [List.drop_length] at h2
 by_cases hn : nextP T (frmK (ksP s T) (ksP s T).length) < T.length
 ·rw [kids_step s T _ h1 hn] at h2
  injection h2 with e1 e2
  cases e1
 ·rw [kids_stop s T _ hn] at h2
  injection h2 with e1 e2
  exact ⟨e2, hn⟩
end
section
variable (s : List UInt8) (frm til : Nat) (ins : List UInt8)
def mvK (k : Kd) : Kd := ⟨k.part, k.base + (frm + ins.length) - til, mvI s frm til ins k.first, mvI s frm til ins k.last⟩
variable {s frm til ins} (h1 : frm ≤ til) (h2 : til ≤ s.length)
include h1 h2
theorem kids_head {c : Nat} (hc : c ≤ (ksP s (Lx.tokR 0 s)).length) (hk : ∀ j (h : j < (ksP s (Lx.tokR 0 s)).length), j < c → nextP (Lx.tokR 0 s) (ksP s (Lx.tokR 0 s))[j].last < Lx.headM (Lx.tokR 0 s) frm) : ∀ j, j ≤ c →
  frmK (ksP s (Lx.tokR 0 s)) j ≤ (Lx.tokR 0 (Lx.nowM s frm til ins)).length ∧ kidsP (Lx.nowM s frm til ins) (Lx.tokR 0 (Lx.nowM s frm til ins)) ((Lx.tokR 0 (Lx.nowM s frm til ins)).length + 1) 0 =
   ((ksP s (Lx.tokR 0 s)).take j ++ (kidsP (Lx.nowM s frm til ins) (Lx.tokR 0 (Lx.nowM s frm til ins)) ((Lx.tokR 0 (Lx.nowM s frm til ins)).length + 1) (frmK (ksP s (Lx.tokR 0 s)) j)).1, (kidsP (Lx.nowM s frm til ins) (Lx.tokR 0 (Lx.nowM s frm til ins)) ((Lx.tokR 0 (Lx.nowM s frm til ins)).length + 1) (frmK (ksP s (Lx.tokR 0 s)) j)).2)
 | 0, _ => ⟨Nat.zero_le _, by rw [List.take_zero, List.nil_append]; rfl⟩
 | j + 1, hj => by
  obtain ⟨g1, g2⟩ := kids_head hc hk j (by omega)
  have hjl : j < (ksP s (Lx.tokR 0 s)).length := by omega
  obtain ⟨e1, e2, e3⟩ := kid_at s (Lx.tokR 0 s) j hjl
  have hh := hk j hjl (by omega)
  have hi := (kids_at s (Lx.tokR 0 s) j (by omega)).1
  have hl : (ksP s (Lx.tokR 0 s))[j].last = (kidP s (Lx.tokR 0 s) (frmK (ksP s (Lx.tokR 0 s)) j)).2 := by rw [e1]; rfl
  rw [hl] at hh
  have hg := kid_goes s (Lx.tokR 0 s) _ hi
  have hx := next_ge (Lx.tokR 0 s) (kidP s (Lx.tokR 0 s) (frmK (ksP s (Lx.tokR 0 s)) j)).2
  have e4 : (ksP s (Lx.tokR 0 s)).take (j + 1) = (ksP s (Lx.tokR 0 s)).take j ++ [kdP s (Lx.tokR 0 s) (frmK (ksP s (Lx.tokR 0 s)) j)] := by rw [List.take_succ_eq_append_getElem hjl, e1]
  rw [e4, e3]
  generalize frmK (ksP s (Lx.tokR 0 s)) j = i at *
  have H := agr_head h1 h2 (ins := ins) (o := i) (by omega)
  have hL : LA (Lx.tokR 0 s) i (Lx.headM (Lx.tokR 0 s) frm - i) False (kidP s (Lx.tokR 0 s) i).2 := .inl (by omega)
  have hkid := kid_loc H hi hL
  have hmo := (more_loc H (Nat.le_refl _) hi (hL.mono hg.1)).2 e2
  have hs : ∀ y, i ≤ y → sh i i y = y := fun y hy => by unfold sh; omega
  rw [hs _ hg.1] at hkid
  rw [hs _ (Nat.le_refl _)] at hmo
  have hkd : kdP (Lx.nowM s frm til ins) (Lx.tokR 0 (Lx.nowM s frm til ins)) i = kdP s (Lx.tokR 0 s) i := by
   unfold kdP
   rw [hkid, abs_head h1 h2 (by omega)]
  rw [kids_step _ _ i g1 hmo, hkd] at g2
  rw [hkid] at g2
  refine ⟨?_, ?_⟩
  ·have := (kid_goes (Lx.nowM s frm til ins) (Lx.tokR 0 (Lx.nowM s frm til ins)) i g1).2
   rwa [hkid] at this
  ·rw [g2]
   simp
theorem kids_tail : ∀ (n j : Nat), (ksP s (Lx.tokR 0 s)).length - j ≤ n → j ≤ (ksP s (Lx.tokR 0 s)).length → Lx.behindM s frm til ins ≤ frmK (ksP s (Lx.tokR 0 s)) j →
  kidsP (Lx.nowM s frm til ins) (Lx.tokR 0 (Lx.nowM s frm til ins)) ((Lx.tokR 0 (Lx.nowM s frm til ins)).length + 1) (mvI s frm til ins (frmK (ksP s (Lx.tokR 0 s)) j)) =
   (((ksP s (Lx.tokR 0 s)).drop j).map (mvK s frm til ins), mvI s frm til ins (kidsP s (Lx.tokR 0 s) ((Lx.tokR 0 s).length + 1) 0).2)
 | n, j, hn, hj, hb => by
  have hi := (kids_at s (Lx.tokR 0 s) j hj).1
  have H := agr_tail h1 h2 hi hb
  have hmo := more_loc H (Nat.le_refl _) hi (.inr trivial)
  have hs : sh (frmK (ksP s (Lx.tokR 0 s)) j) (mvI s frm til ins (frmK (ksP s (Lx.tokR 0 s)) j)) (frmK (ksP s (Lx.tokR 0 s)) j) = mvI s frm til ins (frmK (ksP s (Lx.tokR 0 s)) j) := by unfold sh; omega
  rw [hs] at hmo
  rcases Nat.eq_or_lt_of_le hj with rfl | hlt
  ·obtain ⟨e1, e2⟩ := frm_end s (Lx.tokR 0 s)
   rw [kids_stop _ _ _ (fun h => e2 (hmo.1 h)), List.drop_length, ← e1]
   rfl
  ·obtain ⟨e1, e2, e3⟩ := kid_at s (Lx.tokR 0 s) j hlt
   have hg := kid_goes s (Lx.tokR 0 s) _ hi
   have hsl := sh_le H (.inr trivial) hi
   rw [hs] at hsl
   have hkid := kid_loc H hi (.inr trivial)
   have hsh : sh (frmK (ksP s (Lx.tokR 0 s)) j) (mvI s frm til ins (frmK (ksP s (Lx.tokR 0 s)) j)) (kidP s (Lx.tokR 0 s) (frmK (ksP s (Lx.tokR 0 s)) j)).2 = mvI s frm til ins (kidP s (Lx.tokR 0 s) (frmK (ksP s (Lx.tokR 0 s)) j)).2 := by unfold sh mvI; omega
   rw [hsh] at hkid
   obtain ⟨ha, ha2⟩ := abs_tail h1 h2 hi hb
   rw [kids_step _ _ _ hsl (hmo.2 e2)]
   have hkd : kdP (Lx.nowM s frm til ins) (Lx.tokR 0 (Lx.nowM s frm til ins)) (mvI s frm til ins (frmK (ksP s (Lx.tokR 0 s)) j)) = mvK s frm til ins (ksP s (Lx.tokR 0 s))[j] := by
    rw [e1]
    unfold kdP mvK
    rw [hkid]
    dsimp only
    congr 1
    omega
   rw [hkd, hkid, ← e3]
   have hgt := frm_lt s (Lx.tokR 0 s) j hlt
   match n, hn with
   | 0, hn => omega
   | n + 1, hn =>
    rw [kids_tail n (j + 1) (by omega) (by omega) (by omega), List.drop_eq_getElem_cons hlt, List.map_cons]
end
def cntR (stop : Nat → Bool) (s : List UInt8) (T : List (Nat × Nat × Nat)) : Nat → Nat → Nat
 | 0, _ => 0
 | f + 1, i => if nextP T i < T.length ∧ stop i = false then cntR stop s T f (kidP s T i).2 + 1 else 0
theorem cntR_fuel (stop : Nat → Bool) (s : List UInt8) (T : List (Nat × Nat × Nat)) : ∀ (f g i : Nat), i ≤ T.length → T.length + 1 ≤ f + i → T.length + 1 ≤ g + i → cntR stop s T f i = cntR stop s T g i
 | 0, _, i, h, h1, _ => by omega
 | f + 1, 0, i, h, _, h2 => by omega
 | f + 1, g + 1, i, h, h1, h2 => by
  unfold cntR
  split
  ·rename_i hn
   have h3 := kid_gt s T i h hn.1
   have h4 := kid_goes s T i h
   rw [cntR_fuel stop s T f g _ h4.2 (by omega) (by omega)]
  ·rfl
theorem cntR_step (stop : Nat → Bool) (s : List UInt8) (T : List (Nat × Nat × Nat)) (i : Nat) (h : i ≤ T.length) (hn : nextP T i < T.length) (hs : stop i = false) : cntR stop s T (T.length + 1) i = cntR stop s T (T.length + 1) (kidP s T i).2 + 1 := by
 have h3 := kid_gt s T i h hn
 have h4 := kid_goes s T i h
 rw [cntR, if_pos ⟨hn, hs⟩, cntR_fuel stop s T T.length (T.length + 1) _ h4.2 (by omega) (by omega)]
theorem cntR_stop (stop : Nat → Bool) (s : List UInt8) (T : List (Nat × Nat × Nat)) (i : Nat) (h : ¬ (nextP T i < T.length ∧ stop i = false)) : cntR stop s T (T.length + 1) i = 0 := by rw [cntR, if_neg h]
end Go.Proofs.YtalklmeejdmifaaGreatDoor.Tr
namespace Go.Proofs.YtalklmeejdmifaaGreatDoor
def Lx.Chain : Nat → Nat → List (Nat × Nat × Nat) → Prop
 | a, e, [] => a = e
 | a, e, t :: R => t.2.1 = a ∧ 1 ≤ t.2.2 ∧ 1 ≤ t.1 ∧ t.1 ≤ 8 ∧ Lx.Chain (a + t.2.2) e R
theorem Lx.chain_tok : ∀ (n a : Nat) (l : List UInt8), l.length ≤ n → Lx.Chain a (a + l.length) (Lx.tokR a l)
 | 0, a, l, h => by
  obtain rfl : l = [] := List.eq_nil_of_length_eq_zero (by omega)
  rw [Lx.tokR_nil]; rfl
 | n + 1, a, l, h => by
  by_cases hne : l = []
  ·subst hne; rw [Lx.tokR_nil]; rfl
  ·have h1 := Lx.one_le l hne
   rw [Lx.tokR_cons a hne]
   refine ⟨rfl, h1.1, h1.2.2.1, h1.2.2.2, ?_⟩
   have := Lx.chain_tok n (a + (Lx.oneM l).2) (l.drop (Lx.oneM l).2) (by rw [List.length_drop]; omega)
   rw [List.length_drop] at this
   dsimp only
   rwa [show a + (Lx.oneM l).2 + (l.length - (Lx.oneM l).2) = a + l.length by omega] at this
theorem Lx.chain_head {a e : Nat} {R : List (Nat × Nat × Nat)} (h : Lx.Chain a e R) : a = (R[0]?.map (·.2.1)).getD e := by
 cases R with
 | nil => exact h
 | cons t R => simp [h.1]
theorem Lx.chain_drop {e : Nat} : ∀ (i a : Nat) (R : List (Nat × Nat × Nat)), Lx.Chain a e R → Lx.Chain ((R[i]?.map (·.2.1)).getD e) e (R.drop i)
 | 0, a, R, h => by rw [List.drop_zero, ← Lx.chain_head h]; exact h
 | i + 1, a, [], h => by simp; rfl
 | i + 1, a, t :: R, h => by simpa using Lx.chain_drop i _ R h.2.2.2.2
theorem Lx.chain_le {e : Nat} : ∀ (a : Nat) (R : List (Nat × Nat × Nat)), Lx.Chain a e R → a ≤ e
 | a, [], h => by have : a = e := h; omega
 | a, t :: R, h => by have := Lx.chain_le _ R h.2.2.2.2; omega
theorem Lx.chain_side {s : List UInt8} {T : List (Nat × Nat × Nat)} (h : Lx.Chain 0 s.length T) (hT : T.length ≤ 400000000) : Tr.Side s T := by
 have habs : ∀ i, Lx.Chain (Tr.absP s T i) s.length (T.drop i) := fun i => Lx.chain_drop i 0 T h
 have hk : ∀ k (hk : k < T.length), T[k].2.1 = Tr.absP s T k ∧ 1 ≤ T[k].2.2 ∧ 1 ≤ T[k].1 ∧ T[k].1 ≤ 8 ∧ Lx.Chain (Tr.absP s T k + T[k].2.2) s.length (T.drop (k + 1)) := fun k hk => by
  have := habs k
  rw [List.drop_eq_getElem_cons hk] at this
  exact this
 have htile : ∀ k (h : k < T.length), T[k].2.1 + T[k].2.2 = Tr.absP s T (k + 1) := fun k hlt => by
  obtain ⟨h1, _, _, _, h5⟩ := hk k hlt
  rw [h1, Lx.chain_head h5]
  unfold Tr.absP
  rw [List.getElem?_drop, Nat.add_zero]
 refine ⟨⟨fun t ht => ?_, fun i j hij => ?_⟩, htile, ?_, hT⟩
 ·obtain ⟨k, hlt, rfl⟩ := List.getElem_of_mem ht
  obtain ⟨h1, h2, h3, h4, h5⟩ := hk k hlt
  have := Lx.chain_le _ _ h5
  omega
 ·induction j with
  | zero => obtain rfl : i = 0 := by omega
            exact Nat.le_refl _
  | succ j ih =>
   by_cases e : i = j + 1
   ·subst e; exact Nat.le_refl _
   ·have h1 := ih (by omega)
    by_cases hj : j < T.length
    ·have h2 := htile j hj
     have h3 := (hk j hj).1
     omega
    ·have h2 := Tr.abs_end s T j (by omega)
     have h3 := Tr.abs_end s T (j + 1) (by omega)
     omega
 ·have := Lx.chain_head (habs 0)
  rw [List.drop_zero] at this
  have h0 := Lx.chain_head h
  omega
def Plainly (s : List UInt8) (T : List (Nat × Nat × Nat)) : Prop := ∀ t ∈ T, (t.1 = 7 → Tr.subT s t ≠ Tr.sTrue ∧ Tr.subT s t ≠ Tr.sFalse) ∧ (t.1 = 4 → Tr.subT s t ≠ [63])
theorem Lx.sign_le (l : List UInt8) : Lx.signM l ≤ 2 := by
 unfold Lx.signM
 split
 ·omega
 ·split
  ·omega
  ·split <;> omega
theorem Lx.one_plain (l : List UInt8) : ((Lx.oneM l).1 = 7 → (Lx.oneM l).2 ≤ 2) ∧ ((Lx.oneM l).1 = 4 → l.take (Lx.oneM l).2 ∈ Lx.words) := by
 unfold Lx.oneM
 split
 ·exact ⟨by simp, by simp⟩
 split
 ·exact ⟨by simp, by simp⟩
 split
 ·split <;> exact ⟨by simp, by simp⟩
 split
 ·refine ⟨?_, ?_⟩
  ·dsimp only; split <;> intro h <;> omega
  ·dsimp only
   split
   ·rename_i h
    intro _
    unfold Lx.wordM at h
    simpa using h
   ·intro h; omega
 split
 ·refine ⟨?_, ?_⟩ <;> (dsimp only; split <;> intro h <;> omega)
 split
 ·refine ⟨?_, ?_⟩ <;> (dsimp only; split <;> intro h <;> omega)
 split
 ·exact ⟨fun _ => Lx.sign_le l, by simp⟩
 ·exact ⟨by simp, by simp⟩
theorem Lx.plainly : ∀ (n a : Nat) (s : List UInt8), s.length - a ≤ n → Plainly s (Lx.tokR a (s.drop a))
 | 0, a, s, h => by
  have e : s.drop a = [] := List.drop_eq_nil_of_le (by omega)
  rw [e, Lx.tokR_nil]
  intro t ht; simp at ht
 | n + 1, a, s, h => by
  by_cases hne : s.drop a = []
  ·rw [hne, Lx.tokR_nil]
   intro t ht; simp at ht
  ·have h1 := Lx.one_le _ hne
   rw [Lx.tokR_cons a hne, List.drop_drop]
   rw [List.length_drop] at h1
   have ih := Lx.plainly n (a + (Lx.oneM (s.drop a)).2) s (by omega)
   intro t ht
   rcases List.mem_cons.1 ht with rfl | ht
   ·obtain ⟨p7, p4⟩ := Lx.one_plain (s.drop a)
    unfold Tr.subT
    dsimp only
    refine ⟨fun h7 => ?_, fun h4 e => ?_⟩
    ·have hl : ((s.drop a).take (Lx.oneM (s.drop a)).2).length ≤ 2 := by
      rw [List.length_take]
      have := p7 h7
      omega
     refine ⟨fun e => ?_, fun e => ?_⟩ <;> (rw [e] at hl; simp [Tr.sTrue, Tr.sFalse] at hl)
    ·have := p4 h4
     rw [e] at this
     revert this
     decide
   ·exact ih t ht
theorem Lx.tok_side (s : List UInt8) (hs : s.length ≤ 400000000) (hT : (Lx.tokR 0 s).length ≤ s.length) : Tr.Side s (Lx.tokR 0 s) ∧ Plainly s (Lx.tokR 0 s) := by
 have h1 := Lx.chain_tok s.length 0 s (Nat.le_refl _)
 rw [Nat.zero_add] at h1
 have h2 := Lx.plainly s.length 0 s (by omega)
 rw [List.drop_zero] at h2
 exact ⟨Lx.chain_side h1 (by omega), h2⟩
end Go.Proofs.YtalklmeejdmifaaGreatDoor
namespace Go.Proofs.YtalklmeejdmifaaGreatDoor.Tr
mutual
def lvP : PT → Nat
 | .leaf _ _ _ => 1
 | .gap _ _ _ => 0
 | .branch _ _ l => lvsP l
def lvsP : List PT → Nat
 | [] => 0
 | p :: l => lvP p + lvsP l
end
theorem lvs_app : ∀ (l m : List PT), lvsP (l ++ m) = lvsP l + lvsP m
 | [], m => by simp only [List.nil_append, lvsP, Nat.zero_add]
 | p :: l, m => by simp only [List.cons_append, lvsP, lvs_app l m]; omega
theorem lvs_take (l : List PT) (i : Nat) (h : i < l.length) : lvsP (l.take (i + 1)) = lvsP (l.take i) + lvP l[i] := by
 rw [List.take_succ_eq_append_getElem h, lvs_app]
 simp only [lvsP, Nat.add_zero]
structure Lv (T : List (Nat × Nat × Nat)) (i : Nat) (st : St) : Prop where
 le : st.2 ≤ T.length
 cnt : i + lvsP st.1 = st.2
def LvF (T : List (Nat × Nat × Nat)) (f : Nat → St) : Prop := ∀ i, i ≤ T.length → Lv T i (f i)
def LvO (T : List (Nat × Nat × Nat)) (f : Nat → PT × Nat) : Prop := LvF T (fun i => oneP (f i))
section
variable {T : List (Nat × Nat × Nat)} {i : Nat} {st u : St}
theorem Lv.thn {f : Nat → St} (h : Lv T i st) (hf : LvF T f) : Lv T i (thn st f) := by
 have h1 := hf st.2 h.le
 refine ⟨h1.le, ?_⟩
 unfold Tr.thn
 dsimp only
 rw [lvs_app]
 have := h.cnt
 have := h1.cnt
 omega
theorem Lv.ite {p : Bool} (h : Lv T i st) (hu : Lv T i u) : Lv T i (if p then st else u) := by
 split
 ·exact h
 ·exact hu
theorem Lv.nil (hi : i ≤ T.length) : Lv T i ([], i) := ⟨hi, by simp [lvsP]⟩
theorem Lv.br {kind a : Nat} (h : Lv T i st) : Lv T i ([.branch kind a st.1], st.2) := ⟨h.le, by simp only [lvsP, lvP, Nat.add_zero]; exact h.cnt⟩
end
section
variable (s : List UInt8) (T : List (Nat × Nat × Nat)) (b : Nat)
theorem lvs_leaves : ∀ l : List (Nat × Nat × Nat), lvsP (l.map (leafP s b)) = l.length
 | [] => rfl
 | t :: l => by
  simp only [List.map_cons, lvsP, List.length_cons, lvs_leaves l]
  have : lvP (leafP s b t) = 1 := rfl
  omega
theorem take_lv : LvF T (takeP s T b) := fun i hi => by
 have h1 := to_ge T i hi
 have h2 := to_le T i
 refine ⟨h2, ?_⟩
 unfold takeP
 dsimp only
 rw [lvs_leaves, List.length_take, List.length_drop]
 omega
theorem miss_lv (w : List UInt8) : LvF T (missP s T b w) := fun i hi => ⟨hi, by unfold missP; simp [lvsP, lvP]⟩
theorem want_lv (w : List UInt8) : LvF T (wantP s T b w) := fun i hi => by
 unfold wantP
 exact (take_lv s T b i hi).ite (miss_lv s T b w i hi)
theorem name_lv : LvF T (nameP s T b) := fun i hi => by
 unfold nameP
 split
 ·exact take_lv s T b i hi
 ·exact miss_lv s T b sName i hi
theorem many_lv {one : Nat → St} (ho : LvF T one) {i : Nat} : ∀ (f : Nat) (st : St), Lv T i st → Lv T i (manyP s T b one f st)
 | 0, st, h => h
 | f + 1, st, h => by
  rw [many_succ]
  split
  ·exact many_lv ho f _ ((h.thn (take_lv s T b)).thn ho)
  ·exact h
theorem params_lv : LvO T (paramsP s T b) := fun i hi => by
 have h1 := want_lv s T b [40] i hi
 have h2 := many_lv s T b (name_lv s T b) (T.length + 1) _ (h1.thn (name_lv s T b))
 exact ((h1.ite (p := isP s T [[41]] (wantP s T b [40] i).2) h2).thn (want_lv s T b [41])).br
theorem list_lv {e : Nat → St} (he : LvF T e) (kind : Nat) (shut : List UInt8) : LvO T (listP s T b e kind shut) := fun i hi => by
 have h1 := take_lv s T b i hi
 have h2 := many_lv s T b he (T.length + 1) _ (h1.thn he)
 exact ((h1.ite (p := isP s T [shut] (takeP s T b i).2) h2).thn (want_lv s T b shut)).br
theorem part_lv {e : Nat → St} (he : LvF T e) : LvO T (partP s T b e) := fun i hi => by
 show Lv T i (oneP (partP s T b e i))
 unfold partP
 split
 ·exact (take_lv s T b i hi).br
 split
 ·exact (((take_lv s T b i hi).thn he).thn (want_lv s T b [41])).br
 split
 ·exact list_lv s T b he 13 [93] i hi
 ·exact miss_lv s T b sExpr i hi
theorem calls_lv {e : Nat → St} (he : LvF T e) {i : Nat} : ∀ (f : Nat) (r : PT × Nat), Lv T i (oneP r) → Lv T i (oneP (callsP s T b e f r))
 | 0, r, h => h
 | f + 1, r, h => by
  rw [calls_succ]
  split
  ·exact calls_lv he f _ ((h.thn (list_lv s T b he 12 [41])).br (kind := 11) (a := r.1.from_))
  ·exact h
theorem call_lv {e : Nat → St} (he : LvF T e) : LvO T (callP s T b e) := fun i hi => calls_lv s T b he _ _ (part_lv s T b he i hi)
theorem bin_lv {one : Nat → PT × Nat} (ho : LvO T one) {i : Nat} {r : PT × Nat} (h : Lv T i (oneP r)) : Lv T i (oneP (binP s T b one r)) :=
 ((h.thn (take_lv s T b)).thn ho).br (kind := 10) (a := r.1.from_)
theorem rows_lv {one : Nat → PT × Nat} (ho : LvO T one) (signs : List (List UInt8)) {i : Nat} : ∀ (f : Nat) (r : PT × Nat), Lv T i (oneP r) → Lv T i (oneP (rowsP s T b one signs f r))
 | 0, r, h => h
 | f + 1, r, h => by
  rw [rows_succ]
  split
  ·exact rows_lv ho signs f _ (bin_lv s T b ho h)
  ·exact h
theorem row_lv {one : Nat → PT × Nat} (ho : LvO T one) (signs : List (List UInt8)) : LvO T (rowP s T b one signs) := fun i hi => rows_lv s T b ho signs _ _ (ho i hi)
theorem comp_lv {e : Nat → St} (he : LvF T e) : LvO T (compP s T b e) := fun i hi => by
 have hs : LvO T (sumP s T b e) := row_lv s T b (row_lv s T b (call_lv s T b he) _) _
 show Lv T i (oneP (compP s T b e i))
 unfold compP
 split
 ·exact bin_lv s T b hs (hs i hi)
 ·exact hs i hi
theorem expr_lv : ∀ f, LvO T (exprP s T b f)
 | 0 => fun i hi => ⟨hi, by simp [oneP, exprP, lvsP, lvP]⟩
 | f + 1 => fun i hi => by
  have he := expr_lv f
  have ht := take_lv s T b i hi
  show Lv T i (oneP (exprP s T b (f + 1) i))
  rw [exprP]
  split
  ·exact (((((ht.thn (name_lv s T b)).thn (want_lv s T b [61])).thn he).thn (want_lv s T b sIn)).thn he).br
  split
  ·exact (((((ht.thn he).thn (want_lv s T b sThen)).thn he).thn (want_lv s T b sElse)).thn he).br
  split
  ·exact (((ht.thn (params_lv s T b)).thn (want_lv s T b [61, 62])).thn he).br
  ·exact comp_lv s T b he i hi
theorem pub_lv : LvF T (pubP s T b) := fun i hi => by
 unfold pubP
 exact (take_lv s T b i hi).ite (Lv.nil hi)
theorem use_lv {i : Nat} {st : St} (h : Lv T i st) : Lv T i (useP s T b st) := by
 unfold useP
 have h4 := (((h.thn (want_lv s T b sUse)).thn (name_lv s T b)).thn (want_lv s T b [46])).thn (name_lv s T b)
 have h5 := (h4.thn (take_lv s T b)).thn (name_lv s T b)
 exact (h5.ite h4).thn (want_lv s T b [59])
theorem def_lv {i : Nat} {st : St} (h : Lv T i st) : Lv T i (defP s T b st) := by
 unfold defP
 have h4 := (h.thn (want_lv s T b sDef)).thn (name_lv s T b)
 have h5 := h4.thn (params_lv s T b)
 exact (((h5.ite h4).thn (want_lv s T b [61])).thn (expr_lv s T b 65)).thn (want_lv s T b [59])
theorem item_lv : LvO T (itemP s T b) := fun i hi => by
 have h0 := pub_lv s T b i hi
 show Lv T i (oneP (itemP s T b i))
 unfold itemP
 split
 ·exact (use_lv s T b h0).br
 ·exact (def_lv s T b h0).br
theorem junks_lv {i : Nat} : ∀ (f : Nat) (last : Bool) (st : St), Lv T i st → Lv T i (junksP s T b f last st)
 | 0, _, st, h => h
 | f + 1, last, st, h => by
  rw [junks_succ]
  split
  ·exact junks_lv f _ _ (h.thn (take_lv s T b))
  ·exact h
theorem kid_lv (i : Nat) (hi : i ≤ T.length) : i + lvP (kidP s T i).1 = (kidP s T i).2 := by
 have h : Lv T i (oneP (kidP s T i)) := by
  unfold kidP
  split
  ·exact item_lv s T _ i hi
  ·exact (junks_lv s T (absP s T i) (T.length + 1) false ([], i) (Lv.nil hi)).br
 have := h.cnt
 simpa [oneP, lvsP] using this
theorem kid_kind (i : Nat) : ∃ k a l, (kidP s T i).1 = .branch k a l ∧ 2 ≤ k := by
 unfold kidP
 split
 ·unfold itemP
  split
  ·exact ⟨_, _, _, rfl, by omega⟩
  ·exact ⟨_, _, _, rfl, by omega⟩
 ·exact ⟨_, _, _, rfl, by omega⟩
end
def kptP (T : List (Nat × Nat × Nat)) (head : Nat) (ks : List Kd) : Nat := (ks.takeWhile fun k => decide (nextP T k.last < head)).length
theorem kpt_le (T : List (Nat × Nat × Nat)) (head : Nat) (ks : List Kd) : kptP T head ks ≤ ks.length := Lx.while_le _ ks
theorem kpt_at (T : List (Nat × Nat × Nat)) (head : Nat) (ks : List Kd) (j : Nat) (hj : j < ks.length) (h : j < kptP T head ks) : nextP T ks[j].last < head :=
 of_decide_eq_true (Lx.while_at (fun k : Kd => decide (nextP T k.last < head)) ks j hj h)
theorem while_not {α : Type} (p : α → Bool) : ∀ (l : List α) (n : Nat), (l.takeWhile p).length = n → ∀ h : n < l.length, p l[n] = false
 | [], n, _, h => absurd h (by simp)
 | a :: l, n, e, h => by
  cases hp : p a with
  | false =>
   rw [List.takeWhile_cons, hp] at e
   simp at e
   subst e
   exact hp
  | true =>
   rw [List.takeWhile_cons, hp] at e
   simp at e
   subst e
   exact while_not p l _ rfl (by simpa using h)
theorem kpt_not (T : List (Nat × Nat × Nat)) (head : Nat) (ks : List Kd) (h : kptP T head ks < ks.length) : ¬ nextP T ks[kptP T head ks].last < head :=
 of_decide_eq_false (while_not (fun k : Kd => decide (nextP T k.last < head)) ks _ rfl h)
theorem kpt_lt {s : List UInt8} {T : List (Nat × Nat × Nat)} {head : Nat} (hh : head ≤ T.length) (h0 : 0 < (ksP s T).length) : kptP T head (ksP s T) < (ksP s T).length := by
 have h1 := kpt_le T head (ksP s T)
 rcases Nat.eq_or_lt_of_le h1 with e | h
 ·exfalso
  have h2 := kpt_at T head (ksP s T) ((ksP s T).length - 1) (by omega) (by omega)
  obtain ⟨_, h3⟩ := frm_end s T
  have h4 := frmK_succ (ksP s T) ((ksP s T).length - 1) (by omega)
  rw [show (ksP s T).length - 1 + 1 = (ksP s T).length by omega] at h4
  rw [h4] at h3
  omega
 ·exact h
section
variable (s : List UInt8) (frm til : Nat) (ins : List UInt8)
def stopP (i : Nat) : Bool := (ksP s (Lx.tokR 0 s)).any fun k => decide (Lx.behindM s frm til ins ≤ k.first) && decide (mvI s frm til ins k.first = i)
def fromP : Nat := frmK (ksP s (Lx.tokR 0 s)) (kptP (Lx.tokR 0 s) (Lx.headM (Lx.tokR 0 s) frm) (ksP s (Lx.tokR 0 s)))
def cntP' (i : Nat) : Nat := cntR (stopP s frm til ins) (Lx.nowM s frm til ins) (Lx.tokR 0 (Lx.nowM s frm til ins)) ((Lx.tokR 0 (Lx.nowM s frm til ins)).length + 1) i
variable {s frm til ins}
theorem stop_low {i : Nat} (h : i < Lx.headM (Lx.tokR 0 s) frm + (Lx.anewM s frm til ins).length) : stopP s frm til ins i = false := by
 unfold stopP
 rw [List.any_eq_false]
 intro k _
 simp only [Bool.and_eq_true, decide_eq_true_eq, not_and]
 intro hb e
 unfold mvI at e
 omega
variable (h1 : frm ≤ til) (h2 : til ≤ s.length)
include h1 h2
theorem stop_yes {i j : Nat} (hj : j < (ksP s (Lx.tokR 0 s)).length) (hi : Lx.headM (Lx.tokR 0 s) frm + (Lx.anewM s frm til ins).length ≤ i) (he : ((ksP s (Lx.tokR 0 s))[j].first : Int) = (i : Int) - ((Lx.tokR 0 (Lx.nowM s frm til ins)).length : Int) + ((Lx.tokR 0 s).length : Int)) : stopP s frm til ins i = true := by
 have hc := now_count h1 h2 (ins := ins)
 obtain ⟨_, _, hb, _⟩ := Lx.toks_parts s frm til ins h1 h2
 unfold stopP
 rw [List.any_eq_true]
 refine ⟨_, List.getElem_mem hj, ?_⟩
 simp only [Bool.and_eq_true, decide_eq_true_eq]
 unfold mvI at hc ⊢
 omega
theorem stop_no {i : Nat} (h : ∀ j (hj : j < (ksP s (Lx.tokR 0 s)).length), ((ksP s (Lx.tokR 0 s))[j].first : Int) ≠ (i : Int) - ((Lx.tokR 0 (Lx.nowM s frm til ins)).length : Int) + ((Lx.tokR 0 s).length : Int)) : stopP s frm til ins i = false := by
 have hc := now_count h1 h2 (ins := ins)
 obtain ⟨_, _, hb, _⟩ := Lx.toks_parts s frm til ins h1 h2
 unfold stopP
 rw [List.any_eq_false]
 intro k hk
 obtain ⟨j, hj, rfl⟩ := List.getElem_of_mem hk
 simp only [Bool.and_eq_true, decide_eq_true_eq, not_and]
 intro hb e
 refine h j hj ?_
 unfold mvI at hc e
 omega
theorem behind_len : ((Lx.tokR 0 (Lx.nowM s frm til ins)).length : Int) - (((Lx.tokR 0 s).length : Int) - (Lx.behindM s frm til ins : Int)) = ((Lx.headM (Lx.tokR 0 s) frm + (Lx.anewM s frm til ins).length : Nat) : Int) := by
 have hc := now_count h1 h2 (ins := ins)
 obtain ⟨_, _, hb, _⟩ := Lx.toks_parts s frm til ins h1 h2
 unfold mvI at hc
 omega
end
theorem cnt_step (s : List UInt8) (frm til : Nat) (ins : List UInt8) (i : Nat) (h : i ≤ (Lx.tokR 0 (Lx.nowM s frm til ins)).length) (hn : nextP (Lx.tokR 0 (Lx.nowM s frm til ins)) i < (Lx.tokR 0 (Lx.nowM s frm til ins)).length) (hs : stopP s frm til ins i = false) : cntP' s frm til ins i = cntP' s frm til ins (kidP (Lx.nowM s frm til ins) (Lx.tokR 0 (Lx.nowM s frm til ins)) i).2 + 1 := cntR_step _ _ _ i h hn hs
theorem cnt_stop (s : List UInt8) (frm til : Nat) (ins : List UInt8) (i : Nat) (h : ¬ (nextP (Lx.tokR 0 (Lx.nowM s frm til ins)) i < (Lx.tokR 0 (Lx.nowM s frm til ins)).length ∧ stopP s frm til ins i = false)) : cntP' s frm til ins i = 0 := cntR_stop _ _ _ i h
theorem cntR_le (stop : Nat → Bool) (s : List UInt8) (T : List (Nat × Nat × Nat)) : ∀ (f i : Nat), i ≤ T.length → cntR stop s T f i ≤ T.length - i
 | 0, i, h => Nat.zero_le _
 | f + 1, i, h => by
  unfold cntR
  split
  ·rename_i hn
   have h3 := kid_gt s T i h hn.1
   have h4 := kid_goes s T i h
   have := cntR_le stop s T f _ h4.2
   omega
  ·exact Nat.zero_le _
theorem frm_leaves (s : List UInt8) (T : List (Nat × Nat × Nat)) (i : Nat) (h : i < (ksP s T).length) : frmK (ksP s T) i + lvP (ksP s T)[i].part = frmK (ksP s T) (i + 1) ∧ frmK (ksP s T) (i + 1) ≤ T.length ∧ ∃ k a l, (ksP s T)[i].part = .branch k a l ∧ 2 ≤ k := by
 obtain ⟨e1, _, e3⟩ := kid_at s T i h
 have h1 := (kids_at s T i (by omega)).1
 refine ⟨?_, (kids_at s T (i + 1) (by omega)).1, ?_⟩
 ·rw [e3, e1]
  exact kid_lv s T _ h1
 ·rw [e1]
  exact kid_kind s T _
def anewP (s : List UInt8) (frm til : Nat) (ins : List UInt8) : Nat := cntP' s frm til ins (fromP s frm)
structure AnF (T T' : List (Nat × Nat × Nat)) (now : List UInt8) (ks : List Kd) (ts : List PT) (H Bh an kp N : Nat) (st : Nat → Bool) (cn : Nat → Nat) : Prop where
 lv : ∀ i (h : i < ks.length), frmK ks i + lvP ks[i].part = frmK ks (i + 1) ∧ frmK ks (i + 1) ≤ T.length ∧ ∃ k a l, ks[i].part = .branch k a l ∧ 2 ≤ k
 first : ∀ i (h : i < ks.length), ks[i].first = frmK ks i
 last : ∀ i (h : i < ks.length), ks[i].last = frmK ks (i + 1)
 up : ∀ i, i < ks.length → frmK ks i < frmK ks (i + 1)
 kp_le : kp ≤ ks.length
 kp_at : ∀ j, j < kp → nextP T (frmK ks (j + 1)) < H
 kp_not : kp < ks.length → ¬ nextP T (frmK ks (kp + 1)) < H
 kp_lt : 0 < ks.length → kp < ks.length
 head : H ≤ T.length
 hb : H ≤ Bh
 blen : Bh ≤ T.length
 tail : ∀ p ∈ ts, ∃ k t a, p = .leaf k t a
 wf : wfsP (ks.map (·.part) ++ ts)
 len : (ks.map (·.part) ++ ts).length ≤ T.length
 Tl : T.length ≤ 1048576
 Tl' : T'.length ≤ 1048576
 low : ∀ i, i < H + an → st i = false
 yes : ∀ (i j : Nat) (hj : j < ks.length), H + an ≤ i → (ks[j].first : Int) = (i : Int) - (T'.length : Int) + (T.length : Int) → st i = true
 no : ∀ i : Nat, (∀ j (hj : j < ks.length), (ks[j].first : Int) ≠ (i : Int) - (T'.length : Int) + (T.length : Int)) → st i = false
 bl : (T'.length : Int) - ((T.length : Int) - (Bh : Int)) = ((H + an : Nat) : Int)
 stp : ∀ i, i ≤ T'.length → nextP T' i < T'.length → st i = false → cn i = cn (kidP now T' i).2 + 1
 sto : ∀ i, ¬ (nextP T' i < T'.length ∧ st i = false) → cn i = 0
 cn_le : ∀ i, i ≤ T'.length → cn i ≤ T'.length
 from_le : frmK ks kp ≤ T'.length
 N : N = cn (frmK ks kp)
theorem an_facts {s : List UInt8} {frm til : Nat} {ins : List UInt8} (h1 : frm ≤ til) (h2 : til ≤ s.length) (hl : s.length + ins.length ≤ 1048576) :
  AnF (Lx.tokR 0 s) (Lx.tokR 0 (Lx.nowM s frm til ins)) (Lx.nowM s frm til ins) (ksP s (Lx.tokR 0 s)) (tailP s (Lx.tokR 0 s) (kidsP s (Lx.tokR 0 s) ((Lx.tokR 0 s).length + 1) 0).2) (Lx.headM (Lx.tokR 0 s) frm) (Lx.behindM s frm til ins) (Lx.anewM s frm til ins).length
   (kptP (Lx.tokR 0 s) (Lx.headM (Lx.tokR 0 s) frm) (ksP s (Lx.tokR 0 s))) (anewP s frm til ins) (stopP s frm til ins) (cntP' s frm til ins) := by
 have hTl := Lx.tokR_length 0 s
 have hTl' := Lx.tokR_length 0 (Lx.nowM s frm til ins)
 have hnl := Lx.now_len s frm til ins h1 h2
 obtain ⟨hS, -⟩ := Lx.tok_side s (by omega) hTl
 have hall := all_fine hS
 obtain ⟨_, hhb, hbl, _⟩ := Lx.toks_parts s frm til ins h1 h2
 have hhl := Lx.headM_le (Lx.tokR 0 s) frm
 have hkp := kpt_le (Lx.tokR 0 s) (Lx.headM (Lx.tokR 0 s) frm) (ksP s (Lx.tokR 0 s))
 refine ⟨fun i h => frm_leaves s _ i h, fun i h => first_at s _ i h, fun i h => (frmK_succ _ i h).symm, fun i h => frm_lt s _ i h, hkp, fun j hj => ?_, fun h => ?_, fun h => kpt_lt hhl h, hhl, hhb, hbl, fun p hp => ?_, hall.2.1, hall.2.2, by omega, by omega, fun i h => stop_low h, fun i j hj hi he => stop_yes h1 h2 hj hi he, fun i h => stop_no h1 h2 h, behind_len h1 h2, fun i hi hn hs => cnt_step s frm til ins i hi hn hs, fun i h => cnt_stop s frm til ins i h, fun i hi => ?_, ?_, rfl⟩
 ·have h := kpt_at (Lx.tokR 0 s) (Lx.headM (Lx.tokR 0 s) frm) (ksP s (Lx.tokR 0 s)) j (by omega) hj
  rwa [← frmK_succ _ j (by omega)] at h
 ·have h := kpt_not (Lx.tokR 0 s) (Lx.headM (Lx.tokR 0 s) frm) (ksP s (Lx.tokR 0 s)) h
  rwa [← frmK_succ] at h
 ·unfold tailP at hp
  obtain ⟨t, _, rfl⟩ := List.mem_map.1 hp
  exact ⟨_, _, _, rfl⟩
 ·have := cntR_le (stopP s frm til ins) (Lx.nowM s frm til ins) (Lx.tokR 0 (Lx.nowM s frm til ins)) ((Lx.tokR 0 (Lx.nowM s frm til ins)).length + 1) i hi
  unfold cntP'
  omega
 ·exact (kids_head h1 h2 hkp (fun j hj hjc => kpt_at _ _ _ j hj hjc) _ (Nat.le_refl _)).1
end Go.Proofs.YtalklmeejdmifaaGreatDoor.Tr
namespace Go.Proofs.YtalklmeejdmifaaGreatDoor
open Tr
section
variable (s : Bs) (frm til : Nat) (ins : Bs)
def mvF (k : Kd) : Kd := ⟨k.part, k.base, mvI s frm til ins k.first, mvI s frm til ins k.last⟩
def qP : Nat := ((ksP s (Lx.tokR 0 s)).takeWhile fun k => decide (k.first < Lx.behindM s frm til ins)).length
def osP : List Kd := ((ksP s (Lx.tokR 0 s)).drop (qP s frm til ins)).map (mvF s frm til ins)
variable {s frm til ins}
theorem q_at (j : Nat) (hj : j < (ksP s (Lx.tokR 0 s)).length) (h : j < qP s frm til ins) : (ksP s (Lx.tokR 0 s))[j].first < Lx.behindM s frm til ins :=
 of_decide_eq_true (Lx.while_at (fun k : Kd => decide (k.first < Lx.behindM s frm til ins)) _ j hj h)
theorem q_not (j : Nat) (hj : j < (ksP s (Lx.tokR 0 s)).length) (h : qP s frm til ins ≤ j) : Lx.behindM s frm til ins ≤ (ksP s (Lx.tokR 0 s))[j].first := by
 have h1 := of_decide_eq_false (while_not (fun k : Kd => decide (k.first < Lx.behindM s frm til ins)) (ksP s (Lx.tokR 0 s)) _ rfl (show qP s frm til ins < _ by omega))
 have h2 := first_at s (Lx.tokR 0 s) j hj
 have h3 := first_at s (Lx.tokR 0 s) (qP s frm til ins) (by omega)
 have h4 := frm_mono s (Lx.tokR 0 s) h (by omega)
 have h5 : ¬ (ksP s (Lx.tokR 0 s))[qP s frm til ins].first < Lx.behindM s frm til ins := h1
 omega
theorem os_len : (osP s frm til ins).length = (ksP s (Lx.tokR 0 s)).length - qP s frm til ins := by unfold osP; rw [List.length_map, List.length_drop]
theorem os_at (j : Nat) (h : j < (osP s frm til ins).length) : ∃ h' : qP s frm til ins + j < (ksP s (Lx.tokR 0 s)).length, (osP s frm til ins)[j] = mvF s frm til ins (ksP s (Lx.tokR 0 s))[qP s frm til ins + j] := by
 have hl := os_len (s := s) (frm := frm) (til := til) (ins := ins)
 refine ⟨by omega, ?_⟩
 simp [osP]
theorem mvI_lt {i j : Nat} (h : i < j) (hb : Lx.behindM s frm til ins ≤ i) : mvI s frm til ins i < mvI s frm til ins j := by unfold mvI; omega
theorem mvI_le {i j : Nat} (h : i ≤ j) : mvI s frm til ins i ≤ mvI s frm til ins j := by unfold mvI; omega
theorem mvI_int (h1 : frm ≤ til) (h2 : til ≤ s.length) {i : Nat} (hb : Lx.behindM s frm til ins ≤ i) : (mvI s frm til ins i : Int) = (i : Int) + (((Lx.tokR 0 (Lx.nowM s frm til ins)).length : Int) - ((Lx.tokR 0 s).length : Int)) := by
 have h := behind_len h1 h2 (ins := ins)
 unfold mvI
 omega
theorem kp_q (h1 : frm ≤ til) (h2 : til ≤ s.length) (hl : s.length + ins.length ≤ 1048576) : kptP (Lx.tokR 0 s) (Lx.headM (Lx.tokR 0 s) frm) (ksP s (Lx.tokR 0 s)) ≤ qP s frm til ins := by
 have A := an_facts h1 h2 hl
 refine Nat.le_of_not_lt fun hq => ?_
 have h3 := A.kp_le
 have h4 := q_not (frm := frm) (til := til) (ins := ins) (qP s frm til ins) (by omega) (Nat.le_refl _)
 have h5 := A.kp_at _ hq
 have h6 := A.first (qP s frm til ins) (by omega)
 have h7 := A.up (qP s frm til ins) (by omega)
 have h8 := next_ge (Lx.tokR 0 s) (frmK (ksP s (Lx.tokR 0 s)) (qP s frm til ins + 1))
 have h9 := A.hb
 omega
theorem old_kids (h1 : frm ≤ til) (h2 : til ≤ s.length) (hl : s.length + ins.length ≤ 1048576) :
  OldK (Lx.nowM s frm til ins) (Lx.tokR 0 (Lx.nowM s frm til ins)) (osP s frm til ins) ((ins.length : Int) - ((til : Int) - (frm : Int))) (stopP s frm til ins) (cntP' s frm til ins) := by
 have A := an_facts h1 h2 hl
 have hnl := Lx.now_len s frm til ins h1 h2
 have hT' := Lx.tokR_length 0 (Lx.nowM s frm til ins)
 obtain ⟨hS', -⟩ := Lx.tok_side (Lx.nowM s frm til ins) (by omega) hT'
 have hnc := now_count h1 h2 (ins := ins)
 have hol := os_len (s := s) (frm := frm) (til := til) (ins := ins)
 have hlast : ∀ j (h : j < (ksP s (Lx.tokR 0 s)).length), (ksP s (Lx.tokR 0 s))[j].last ≤ (Lx.tokR 0 s).length ∧ (ksP s (Lx.tokR 0 s))[j].first < (ksP s (Lx.tokR 0 s))[j].last := fun j h => by
  have e1 := A.first j h
  have e2 := A.last j h
  have e3 := A.up j h
  have e4 := (A.lv j h).2.1
  omega
 have hfb : ∀ j (h : j < (ksP s (Lx.tokR 0 s)).length), (ksP s (Lx.tokR 0 s))[j].base = absP s (Lx.tokR 0 s) (frmK (ksP s (Lx.tokR 0 s)) j) := fun j h => by
  rw [(kid_at s (Lx.tokR 0 s) j h).1]
  rfl
 have hbs : ∀ j (h : j < (ksP s (Lx.tokR 0 s)).length), qP s frm til ins ≤ j → 0 ≤ ((ksP s (Lx.tokR 0 s))[j].base : Int) + ((ins.length : Int) - ((til : Int) - (frm : Int))) ∧ ((ksP s (Lx.tokR 0 s))[j].base : Int) + ((ins.length : Int) - ((til : Int) - (frm : Int))) ≤ 1000000000 := fun j h hq => by
  have e1 := q_not (frm := frm) (til := til) (ins := ins) j h hq
  have e2 := A.first j h
  have e3 := hlast j h
  obtain ⟨e4, e5⟩ := abs_tail h1 h2 (ins := ins) (o := frmK (ksP s (Lx.tokR 0 s)) j) (by omega) (by omega)
  have e6 := hfb j h
  have e7 := hS'.good.abs_le (mvI s frm til ins (frmK (ksP s (Lx.tokR 0 s)) j))
  omega
 refine ⟨fun i j hi hj hij => ?_, fun j h => ?_, fun j h => ?_, fun j h => ?_, fun i h => ?_, fun j h => ?_, fun j h => ?_, A.stp, A.sto⟩
 ·obtain ⟨g1, e1⟩ := os_at i hi
  obtain ⟨g2, e2⟩ := os_at j hj
  rw [e1, e2]
  refine mvI_lt ?_ (q_not _ g1 (Nat.le_add_right _ _))
  have e3 := A.first _ g1
  have e4 := A.first _ g2
  have e5 := A.up _ g1
  have e6 := frm_mono s (Lx.tokR 0 s) (show qP s frm til ins + i + 1 ≤ qP s frm til ins + j by omega) (by omega)
  omega
 ·obtain ⟨g1, e1⟩ := os_at j h
  rw [e1, hnc]
  have e2 := hlast _ g1
  exact ⟨mvI_le (by omega), mvI_le e2.1⟩
 ·obtain ⟨g1, e1⟩ := os_at j (Nat.lt_of_succ_lt h)
  obtain ⟨g2, e2⟩ := os_at (j + 1) h
  rw [e1, e2]
  show mvI s frm til ins _ = mvI s frm til ins _
  have e3 := A.last _ g1
  have e4 := A.first _ g2
  rw [e3, e4]
  rfl
 ·obtain ⟨g1, e1⟩ := os_at j h
  rw [e1]
  unfold stopP
  rw [List.any_eq_true]
  refine ⟨_, List.getElem_mem g1, ?_⟩
  simp only [Bool.and_eq_true, decide_eq_true_eq]
  exact ⟨q_not _ g1 (Nat.le_add_right _ _), rfl⟩
 ·unfold stopP
  rw [List.any_eq_false]
  intro k hk
  obtain ⟨j, hj, rfl⟩ := List.getElem_of_mem hk
  simp only [Bool.and_eq_true, decide_eq_true_eq, not_and]
  intro hb e
  have hq : qP s frm til ins ≤ j := Nat.le_of_not_lt fun hq => by have := q_at j hj hq; omega
  obtain ⟨g1, e1⟩ := os_at (s := s) (frm := frm) (til := til) (ins := ins) (j - qP s frm til ins) (by omega)
  refine h (j - qP s frm til ins) (by rw [hol]; omega) ?_
  rw [e1]
  show mvI s frm til ins _ = i
  rw [← e]
  congr 2
  congr 1
  omega
 ·obtain ⟨g1, e1⟩ := os_at j h
  rw [e1]
  show kidsP _ _ _ (mvI s frm til ins (ksP s (Lx.tokR 0 s))[qP s frm til ins + j].first) = _
  have e3 := A.first _ g1
  have e4 := q_not (frm := frm) (til := til) (ins := ins) _ g1 (Nat.le_add_right _ _)
  rw [e3, kids_tail h1 h2 _ _ (Nat.le_refl _) (by omega) (by omega)]
  refine Prod.ext ?_ ?_
  ·show _ = ((osP s frm til ins).drop j).map _
   unfold osP
   rw [← List.map_drop, List.drop_drop, List.map_map]
   refine List.map_congr_left fun k hk => ?_
   show mvK s frm til ins k = ⟨k.part, ((k.base : Int) + _).toNat, _, _⟩
   unfold mvK
   congr 1
   omega
  ·show mvI s frm til ins _ = _
   obtain ⟨g2, e2⟩ := os_at (s := s) (frm := frm) (til := til) (ins := ins) ((osP s frm til ins).length - 1) (by omega)
   rw [List.getElem?_eq_getElem (by omega), e2]
   show mvI s frm til ins _ = mvI s frm til ins _
   have e5 := A.last _ g2
   rw [e5, ← (frm_end s (Lx.tokR 0 s)).1]
   congr 2
   omega
 ·obtain ⟨g1, e1⟩ := os_at j h
  rw [e1]
  exact hbs _ g1 (Nat.le_add_right _ _)
end
end Go.Proofs.YtalklmeejdmifaaGreatDoor
