/-
  JOINED of the texts YB SB Base Txt Dec LM
-/
import Derived.Test.YtcjjfeephaddcaaGreatDoorJaa
import Derived.Test.YtcjjfeephaddcaaGreatDoorRows
import Derived.WalkKit
import Derived.WalkSpells
import Derived.WalkLawsBesides
import Derived.Below
import Derived.Laws.OwnMore
import Derived.Deep.AppendLies
import Derived.Deep.Draws
import Derived.Lib.Hide
import Derived.Deep.QuietTactic
import Derived.BigQuiet
import Derived.IntWalk
import Derived.Deep.RegionHeld3
import Derived.Deep.DeepCutAuto
import Derived.Lib.IndexMore
set_option linter.all false
namespace Go.Proofs.YtcjjfeephaddcaaGreatDoor.Tr
structure Okd (s : List UInt8) (T : List (Nat × Nat × Nat)) (b i : Nat) (st : St) : Prop where
 up : i ≤ st.2
 le : st.2 ≤ T.length
 text : textsOf st.1 = sl s T i st.2
 ok : oksP b st.1 (absP s T i)
 base : b ≤ absP s T i
def OkF (s : List UInt8) (T : List (Nat × Nat × Nat)) (b : Nat) (f : Nat → St) : Prop := ∀ i, i ≤ T.length → b ≤ absP s T i → Okd s T b i (f i)
def OkO (s : List UInt8) (T : List (Nat × Nat × Nat)) (b : Nat) (f : Nat → PT × Nat) : Prop := OkF s T b fun i => oneP (f i)
section
variable {s : List UInt8} {T : List (Nat × Nat × Nat)} {b : Nat}
theorem wides_sl (hS : Side s T) {i : Nat} {st : St} (h : Okd s T b i st) : absP s T i + widesP st.1 = absP s T st.2 := by
 have h1 := wides_text st.1
 rw [h.text, sl_len hS.good h.up] at h1
 have := hS.good.up i st.2 h.up
 omega
theorem Okd.thn (hS : Side s T) {i : Nat} {st : St} {f : Nat → St} (h : Okd s T b i st) (hf : OkF s T b f) : Okd s T b i (thn st f) := by
 have h1 := hf st.2 h.le (Nat.le_trans h.base (hS.good.up i st.2 h.up))
 refine ⟨Nat.le_trans h.up h1.up, h1.le, ?_, ?_, h.base⟩
 ·unfold Tr.thn
  dsimp only
  rw [texts_app, h.text, h1.text]
  exact sl_add hS.good h.up h1.up
 ·unfold Tr.thn
  exact oks_app _ _ _ h.ok (by rw [wides_sl hS h]; exact h1.ok)
theorem Okd.ite {i : Nat} {st u : St} {p : Bool} (h : Okd s T b i st) (hu : Okd s T b i u) : Okd s T b i (if p then st else u) := by
 split
 ·exact h
 ·exact hu
theorem Okd.nil {i : Nat} (hi : i ≤ T.length) (hb : b ≤ absP s T i) : Okd s T b i ([], i) := ⟨Nat.le_refl _, hi, by rw [sl_self]; rfl, trivial, hb⟩
theorem Okd.br {i kind : Nat} {st : St} (h : Okd s T b i st) (hk : kind ≠ 5) : Okd s T b i (oneP (brP s T b kind i st)) := by
 refine ⟨h.up, h.le, ?_, ⟨⟨?_, h.ok, fun e => absurd e hk⟩, trivial⟩, h.base⟩
 ·simp only [oneP, brP, textsOf, textOf, List.append_nil, h.text]
 ·have := h.base
  unfold placeP
  omega
theorem Okd.around {i j kind : Nat} {p : PT} {l : List PT} (h : Okd s T b i (p :: l, j)) (hk : kind ≠ 5) : Okd s T b i ([.branch kind p.from_ (p :: l)], j) := by
 refine ⟨h.up, h.le, ?_, ⟨⟨ok_from h.ok.1, h.ok, fun e => absurd e hk⟩, trivial⟩, h.base⟩
 have := h.text
 simp only [textsOf, textOf, List.append_nil] at this ⊢
 exact this
variable (b) (hS : Side s T)
include hS
theorem leaves_ok : ∀ (n i : Nat), i + n ≤ T.length → b ≤ absP s T i → oksP b (((T.drop i).take n).map (leafP s b)) (absP s T i)
 | 0, i, _, _ => by rw [List.take_zero]; trivial
 | n + 1, i, h, hb => by
  have hi : i < T.length := by omega
  have h1 := hS.good.up i (i + 1) (Nat.le_succ i)
  have ih := leaves_ok n (i + 1) (by omega) (Nat.le_trans hb h1)
  rw [List.drop_eq_getElem_cons hi, List.take_succ_cons, List.map_cons]
  have h2 := abs_at s T i hi
  refine ⟨?_, ?_⟩
  ·show b + (T[i].2.1 - b) = absP s T i
   omega
  ·have h3 : (subT s T[i]).length = absP s T (i + 1) - absP s T i := by rw [sl_one hS hi, sl_len hS.good (Nat.le_succ i)]
   have h4 := put_end (leafP s b T[i]) (absP s T i)
   have h5 : wideP (leafP s b T[i]) = (subT s T[i]).length := rfl
   rw [h4, h5, h3, show absP s T i + (absP s T (i + 1) - absP s T i) = absP s T (i + 1) by omega]
   exact ih
theorem take_okd : OkF s T b (takeP s T b) := fun i hi hb => by
 have h1 := to_ge T i hi
 have h2 := to_le T i
 have h := (leaves_fine b hS (toP T i - i) i (by omega)).1
 rw [show i + (toP T i - i) = toP T i by omega] at h
 exact ⟨h1, h2, h, leaves_ok b hS (toP T i - i) i (by omega) hb, hb⟩
omit hS in
theorem miss_okd (w : List UInt8) : OkF s T b (missP s T b w) := fun i hi hb => by
 refine ⟨Nat.le_refl _, hi, by unfold missP; rw [sl_self]; rfl, ⟨?_, trivial⟩, hb⟩
 show b + placeP s T b i = _
 unfold placeP
 omega
theorem want_okd (w : List UInt8) : OkF s T b (wantP s T b w) := fun i hi hb => by
 unfold wantP
 exact (take_okd b hS i hi hb).ite (miss_okd b w i hi hb)
theorem name_okd : OkF s T b (nameP s T b) := fun i hi hb => by
 unfold nameP
 split
 ·exact take_okd b hS i hi hb
 ·exact miss_okd b sName i hi hb
theorem many_okd {one : Nat → St} (ho : OkF s T b one) {i : Nat} : ∀ (f : Nat) (st : St), Okd s T b i st → Okd s T b i (manyP s T b one f st)
 | 0, st, h => h
 | f + 1, st, h => by
  rw [many_succ]
  split
  ·exact many_okd ho f _ ((h.thn hS (take_okd b hS)).thn hS ho)
  ·exact h
theorem params_okd : OkO s T b (paramsP s T b) := fun i hi hb => by
 have h1 := want_okd b hS [40] i hi hb
 have h2 := many_okd b hS (name_okd b hS) (T.length + 1) _ (h1.thn hS (name_okd b hS))
 exact ((h1.ite (p := isP s T [[41]] (wantP s T b [40] i).2) h2).thn hS (want_okd b hS [41])).br (by omega)
theorem list_okd {e : Nat → St} (he : OkF s T b e) (kind : Nat) (hk : kind ≠ 5) (shut : List UInt8) : OkO s T b (listP s T b e kind shut) := fun i hi hb => by
 have h1 := take_okd b hS i hi hb
 have h2 := many_okd b hS he (T.length + 1) _ (h1.thn hS he)
 exact ((h1.ite (p := isP s T [shut] (takeP s T b i).2) h2).thn hS (want_okd b hS shut)).br hk
omit hS in
theorem leafK_ne (k : Nat) (t : List UInt8) : leafK k t ≠ 5 := by
 unfold leafK
 repeat' split
 all_goals omega
theorem part_okd {e : Nat → St} (he : OkF s T b e) : OkO s T b (partP s T b e) := fun i hi hb => by
 show Okd s T b i (oneP (partP s T b e i))
 unfold partP
 split
 ·exact (take_okd b hS i hi hb).br (leafK_ne _ _)
 split
 ·exact (((take_okd b hS i hi hb).thn hS he).thn hS (want_okd b hS [41])).br (by omega)
 split
 ·exact list_okd b hS he 13 (by omega) [93] i hi hb
 ·exact miss_okd b sExpr i hi hb
theorem calls_okd {e : Nat → St} (he : OkF s T b e) {i : Nat} : ∀ (f : Nat) (r : PT × Nat), Okd s T b i (oneP r) → Okd s T b i (oneP (callsP s T b e f r))
 | 0, r, h => h
 | f + 1, r, h => by
  rw [calls_succ]
  split
  ·refine calls_okd he f _ ?_
   have h2 := h.thn hS (list_okd b hS he 12 (by omega) [41])
   exact Okd.around (kind := 11) h2 (by omega)
  ·exact h
theorem call_okd {e : Nat → St} (he : OkF s T b e) : OkO s T b (callP s T b e) := fun i hi hb => calls_okd b hS he _ _ (part_okd b hS he i hi hb)
theorem bin_okd {one : Nat → PT × Nat} (ho : OkO s T b one) {i : Nat} {r : PT × Nat} (h : Okd s T b i (oneP r)) : Okd s T b i (oneP (binP s T b one r)) := by
 have h1 := (h.thn hS (take_okd b hS)).thn hS ho
 exact Okd.around (kind := 10) h1 (by omega)
theorem rows_okd {one : Nat → PT × Nat} (ho : OkO s T b one) (signs : List (List UInt8)) {i : Nat} : ∀ (f : Nat) (r : PT × Nat), Okd s T b i (oneP r) → Okd s T b i (oneP (rowsP s T b one signs f r))
 | 0, r, h => h
 | f + 1, r, h => by
  rw [rows_succ]
  split
  ·exact rows_okd ho signs f _ (bin_okd b hS ho h)
  ·exact h
theorem row_okd {one : Nat → PT × Nat} (ho : OkO s T b one) (signs : List (List UInt8)) : OkO s T b (rowP s T b one signs) := fun i hi hb => rows_okd b hS ho signs _ _ (ho i hi hb)
theorem comp_okd {e : Nat → St} (he : OkF s T b e) : OkO s T b (compP s T b e) := fun i hi hb => by
 have hs : OkO s T b (sumP s T b e) := row_okd b hS (row_okd b hS (call_okd b hS he) _) _
 show Okd s T b i (oneP (compP s T b e i))
 unfold compP
 split
 ·exact bin_okd b hS hs (hs i hi hb)
 ·exact hs i hi hb
theorem expr_okd : ∀ f, OkO s T b (exprP s T b f)
 | 0 => fun i hi hb => by
  have h := miss_okd (s := s) (T := T) b sExpr i hi hb
  exact ⟨h.up, h.le, h.text, h.ok, hb⟩
 | f + 1 => fun i hi hb => by
  have he := expr_okd f
  have ht := take_okd b hS i hi hb
  show Okd s T b i (oneP (exprP s T b (f + 1) i))
  rw [exprP]
  split
  ·exact (((((ht.thn hS (name_okd b hS)).thn hS (want_okd b hS [61])).thn hS he).thn hS (want_okd b hS sIn)).thn hS he).br (by omega)
  split
  ·exact (((((ht.thn hS he).thn hS (want_okd b hS sThen)).thn hS he).thn hS (want_okd b hS sElse)).thn hS he).br (by omega)
  split
  ·exact (((ht.thn hS (params_okd b hS)).thn hS (want_okd b hS [61, 62])).thn hS he).br (by omega)
  ·exact comp_okd b hS he i hi hb
theorem pub_okd : OkF s T b (pubP s T b) := fun i hi hb => by
 unfold pubP
 exact (take_okd b hS i hi hb).ite (Okd.nil hi hb)
theorem use_okd {i : Nat} {st : St} (h : Okd s T b i st) : Okd s T b i (useP s T b st) := by
 unfold useP
 have h4 := (((h.thn hS (want_okd b hS sUse)).thn hS (name_okd b hS)).thn hS (want_okd b hS [46])).thn hS (name_okd b hS)
 have h5 := (h4.thn hS (take_okd b hS)).thn hS (name_okd b hS)
 exact (h5.ite h4).thn hS (want_okd b hS [59])
theorem def_okd {i : Nat} {st : St} (h : Okd s T b i st) : Okd s T b i (defP s T b st) := by
 unfold defP
 have h4 := (h.thn hS (want_okd b hS sDef)).thn hS (name_okd b hS)
 have h5 := h4.thn hS (params_okd b hS)
 exact (((h5.ite h4).thn hS (want_okd b hS [61])).thn hS (expr_okd b hS 65)).thn hS (want_okd b hS [59])
theorem item_okd : OkO s T b (itemP s T b) := fun i hi hb => by
 have h0 := pub_okd b hS i hi hb
 show Okd s T b i (oneP (itemP s T b i))
 unfold itemP
 split
 ·exact (use_okd b hS h0).br (by omega)
 ·exact (def_okd b hS h0).br (by omega)
def EndT (st : St) : Prop := ∃ l k t x, st.1 = l ++ [.leaf k t x] ∧ ¬ (k = 1 ∨ k = 2)
omit hS in
theorem next_not (i : Nat) (hn : nextP T i < T.length) : blankT T[nextP T i] = false := by
 unfold nextP at hn ⊢
 have h1 : (T.drop i).takeWhile blankT ++ (T.drop i).dropWhile blankT = T.drop i := List.takeWhile_append_dropWhile
 generalize hk : ((T.drop i).takeWhile blankT).length = k at *
 have h2 : (T.drop i)[k]? = some T[i + k] := by rw [List.getElem?_drop, List.getElem?_eq_getElem hn]
 rw [← h1, List.getElem?_append_right (by omega), hk, Nat.sub_self] at h2
 cases hd : (T.drop i).dropWhile blankT with
 | nil => rw [hd] at h2; simp at h2
 | cons x l =>
  rw [hd] at h2
  simp only [List.getElem?_cons_zero, Option.some.injEq] at h2
  have := List.head_dropWhile_not blankT (l := T.drop i) (by rw [hd]; simp)
  rw [← h2]
  simpa [hd] using this
omit hS in
theorem take_end (i : Nat) (hn : nextP T i < T.length) : EndT (takeP s T b i) := by
 have h0 := next_ge T i
 have hb := next_not (T := T) i hn
 have e : toP T i - i = (nextP T i - i) + 1 := by unfold toP; omega
 have hl : nextP T i - i < (T.drop i).length := by rw [List.length_drop]; omega
 have hg : (T.drop i)[nextP T i - i] = T[nextP T i] := by
  rw [List.getElem_drop]
  congr 1
  omega
 unfold EndT takeP
 dsimp only
 rw [e, List.take_succ_eq_append_getElem hl, List.map_append, hg]
 refine ⟨_, _, _, _, rfl, ?_⟩
 unfold blankT at hb
 simpa using hb
omit hS in
theorem junk_br {i : Nat} {st : St} (h : Okd s T b i st) (he : EndT st) : Okd s T b i (oneP (brP s T b 5 i st)) := by
 refine ⟨h.up, h.le, ?_, ⟨⟨?_, h.ok, fun _ => ?_⟩, trivial⟩, h.base⟩
 ·simp only [oneP, brP, textsOf, textOf, List.append_nil, h.text]
 ·have := h.base
  unfold placeP
  omega
 ·obtain ⟨l, k, t, x, e, hk⟩ := he
  have e1 : putP (.branch 5 (placeP s T b i) st.1) (absP s T i) = putsP st.1 ⟨absP s T i, -1, -1, false⟩ := rfl
  rw [e1, e, puts_app]
  have h1 := puts_end l ⟨absP s T i, -1, -1, false⟩
  have h2 := puts_in l ⟨absP s T i, -1, -1, false⟩ ((putsP l ⟨absP s T i, -1, -1, false⟩).end_ : Int) (by rw [h1]; exact Int.le_refl _) (by unfold Pl.In; dsimp only; omega)
  generalize putsP l ⟨absP s T i, -1, -1, false⟩ = q at *
  obtain ⟨_, _, _, h3⟩ := h2
  have e2 : putP (.leaf k t x) q.end_ = ⟨q.end_ + t.length, (q.end_ : Int), ((q.end_ + t.length : Nat) : Int), false⟩ := by unfold putP; rw [if_neg hk]
  rw [e2]
  unfold joinP
  dsimp only
  constructor
  ·split <;> omega
  ·split <;> omega
theorem junks_okd {i : Nat} : ∀ (f : Nat) (last : Bool) (st : St), Okd s T b i st → Okd s T b i (junksP s T b f last st) ∧ (EndT st → EndT (junksP s T b f last st))
 | 0, _, st, h => ⟨h, id⟩
 | f + 1, last, st, h => by
  rw [junks_succ]
  split
  ·rename_i hi
   have h1 := junks_okd f (isP s T [[59]] st.2) _ (h.thn hS (take_okd b hS))
   refine ⟨h1.1, fun _ => h1.2 ?_⟩
   obtain ⟨l, k, t, x, e, hk⟩ := take_end (s := s) b st.2 hi.2.1
   exact ⟨st.1 ++ l, k, t, x, by unfold Tr.thn; dsimp only; rw [e, List.append_assoc], hk⟩
  ·exact ⟨h, id⟩
theorem junk_okd (i : Nat) (hi : i ≤ T.length) (hb : b ≤ absP s T i) (hn : nextP T i < T.length) (hs : startP s T i = false) : Okd s T b i (oneP (junkP s T b i)) := by
 unfold junkP
 have h1 := junks_succ s T b T.length false ([], i)
 rw [if_pos ⟨rfl, hn, hs⟩] at h1
 rw [h1]
 have h2 := junks_okd b hS T.length (isP s T [[59]] i) _ ((Okd.nil hi hb).thn hS (take_okd b hS))
 refine junk_br b h2.1 (h2.2 ?_)
 obtain ⟨l, k, t, x, e, hk⟩ := take_end (s := s) b i hn
 exact ⟨l, k, t, x, by unfold Tr.thn; dsimp only; rw [e, List.nil_append], hk⟩
theorem kid_okd (i : Nat) (hi : i ≤ T.length) (hn : nextP T i < T.length) : okP (absP s T i) (kidP s T i).1 (absP s T i) := by
 unfold kidP
 split
 ·exact (item_okd (absP s T i) hS i hi (Nat.le_refl _)).ok.1
 ·rename_i h
  exact (junk_okd (absP s T i) hS i hi (Nat.le_refl _) hn (by simpa using h)).ok.1
end
end Go.Proofs.YtcjjfeephaddcaaGreatDoor.Tr
namespace Go.Proofs.YtcjjfeephaddcaaGreatDoor.Sc
open Tr (PT St thn oneP takeP wantP nameP missP manyP paramsP listP partP callsP callP binP rowsP rowP productP sumP compP exprP letP ifP funP brP isP leafK kindP nextP textP toP subT leafP sLet sIf sFun sIn sThen sElse sUse sPub sDef sAs sName sExpr pubP useP defP itemP)
def isNode (p : PT) : Bool := isExpr p || kindOf p == 12
def headOk (k : Nat) (l : List PT) : Prop :=
 (k = 7 → (∃ x0 x1 r, senseL l = x0 :: x1 :: r ∧ isNode x0 = false ∧ isNode x1 = false ∧ isBr x1 = false) ∧ (exprsL l).length = 2) ∧
 (k = 9 → ∃ x0 x1 r, senseL l = x0 :: x1 :: r ∧ isNode x0 = false ∧ isBr x1 = true ∧ kindOf x1 = 6) ∧
 (k = 18 → ∃ x0, senseL l = [x0] ∧ isLeaf x0 = true) ∧
 (k = 11 → ∃ c a, l = [c, a] ∧ isExpr c = true ∧ isBr a = true ∧ kindOf a = 12) ∧
 (k ≠ 11 → ∀ p ∈ l, kindOf p ≠ 12)
mutual
def shP : PT → Prop
 | .leaf _ t _ => t ≠ []
 | .gap _ _ _ => True
 | .branch k _ l => headOk k l ∧ shsP l
def shsP : List PT → Prop
 | [] => True
 | p :: l => shP p ∧ shsP l
end
theorem shs_mem : ∀ (l : List PT), shsP l ↔ ∀ p ∈ l, shP p
 | [] => by simp [shsP]
 | p :: l => by simp [shsP, shs_mem l]
def OkS (l : List PT) : Prop := ∀ p ∈ l, shP p ∧ kindOf p ≠ 12
theorem OkS.app {l m : List PT} (h : OkS l) (h' : OkS m) : OkS (l ++ m) := fun p hp => by
 rcases List.mem_append.1 hp with hp | hp
 ·exact h p hp
 ·exact h' p hp
theorem OkS.shs {l : List PT} (h : OkS l) : shsP l := (shs_mem l).2 fun p hp => (h p hp).1
theorem OkS.nil : OkS [] := fun p hp => absurd hp (by simp)
theorem OkS.one {p : PT} (h : shP p) (hk : kindOf p ≠ 12) : OkS [p] := fun q hq => by
 rw [List.mem_singleton] at hq
 rw [hq]
 exact ⟨h, hk⟩
def OkF (f : Nat → St) : Prop := ∀ i, OkS (f i).1
def OkE (f : Nat → PT × Nat) : Prop := ∀ i, shP (f i).1 ∧ isExpr (f i).1 = true
theorem expr_kind {p : PT} (h : isExpr p = true) : kindOf p ≠ 12 ∧ blankL p = false ∧ isLeaf p = false := by
 cases p with
 | leaf k t a => simp [isExpr] at h
 | gap t a d => exact ⟨by simp [kindOf], rfl, rfl⟩
 | branch k a l => unfold isExpr at h; simp at h; exact ⟨by simp [kindOf]; omega, rfl, rfl⟩
theorem OkE.one {f : Nat → PT × Nat} (h : OkE f) : OkF fun i => oneP (f i) := fun i => OkS.one (h i).1 (expr_kind (h i).2).1
theorem OkS.thn {st : St} {f : Nat → St} (h : OkS st.1) (hf : OkF f) : OkS (thn st f).1 := h.app (hf st.2)
theorem OkS.ite {st u : St} {p : Bool} (h : OkS st.1) (hu : OkS u.1) : OkS (if p then st else u).1 := by
 split
 ·exact h
 ·exact hu
theorem sense_app (l m : List PT) : senseL (l ++ m) = senseL l ++ senseL m := List.filter_append _ _
theorem exprs_app (l m : List PT) : exprsL (l ++ m) = exprsL l ++ exprsL m := List.filter_append _ _
theorem sense_thn (st : St) (f : Nat → St) : senseL (thn st f).1 = senseL st.1 ++ senseL (f st.2).1 := sense_app _ _
theorem exprs_thn (st : St) (f : Nat → St) : exprsL (thn st f).1 = exprsL st.1 ++ exprsL (f st.2).1 := exprs_app _ _
def WantX (w : List UInt8) (x : PT) : Prop := (∃ k a, x = .leaf k w a) ∨ ∃ a, x = .gap w a false
def NameX (x : PT) : Prop := (∃ t a, x = .leaf 3 t a) ∨ ∃ a, x = .gap sName a false
theorem WantX.plain {w : List UInt8} {x : PT} (h : WantX w x) (hw : w ≠ sExpr) : isNode x = false ∧ isBr x = false := by
 rcases h with ⟨k, a, rfl⟩ | ⟨a, rfl⟩
 ·exact ⟨rfl, rfl⟩
 ·simp [isNode, isExpr, isBr, kindOf, hw]
theorem WantX.is {w t : List UInt8} {x : PT} (h : WantX w x) (hw : w ≠ t) : isW t x = false := by
 rcases h with ⟨k, a, rfl⟩ | ⟨a, rfl⟩
 ·simp [isW, hw]
 ·rfl
theorem NameX.plain {x : PT} (h : NameX x) : isNode x = false ∧ isBr x = false := by
 rcases h with ⟨k, a, rfl⟩ | ⟨a, rfl⟩
 ·exact ⟨rfl, rfl⟩
 ·exact ⟨by simp only [isNode, isExpr, kindOf]; decide, rfl⟩
section
variable {s : List UInt8} {T : List (Nat × Nat × Nat)} (b : Nat) (hT : ∀ t ∈ T, subT s t ≠ [])
theorem take_leaf (i : Nat) {p : PT} (hp : p ∈ (takeP s T b i).1) : ∃ t ∈ T, p = leafP s b t := by
 unfold takeP at hp
 obtain ⟨t, ht, rfl⟩ := List.mem_map.1 hp
 exact ⟨t, List.mem_of_mem_drop (List.mem_of_mem_take ht), rfl⟩
include hT in
theorem take_oks : OkF (takeP s T b) := fun i p hp => by
 obtain ⟨t, ht, rfl⟩ := take_leaf b i hp
 exact ⟨by unfold leafP shP; exact hT t ht, by simp [leafP, kindOf]⟩
theorem take_exprs (i : Nat) : exprsL (takeP s T b i).1 = [] := by
 unfold exprsL
 rw [List.filter_eq_nil_iff]
 intro p hp
 obtain ⟨t, _, rfl⟩ := take_leaf b i hp
 simp [leafP, isExpr]
theorem sense_take {i : Nat} (hn : nextP T i < T.length) : senseL (takeP s T b i).1 = [leafP s b T[nextP T i]] := by
 have h0 := Tr.next_ge T i
 have hb := Tr.next_not (T := T) i hn
 have e : toP T i - i = (nextP T i - i) + 1 := by unfold toP; omega
 have hl : nextP T i - i < (T.drop i).length := by rw [List.length_drop]; omega
 have hg : (T.drop i)[nextP T i - i] = T[nextP T i] := by
  rw [List.getElem_drop]
  congr 1
  omega
 have ht : (T.drop i).take (nextP T i - i) = (T.drop i).takeWhile Tr.blankT := by
  have h1 : (T.drop i).takeWhile Tr.blankT ++ (T.drop i).dropWhile Tr.blankT = T.drop i := List.takeWhile_append_dropWhile
  have h2 : nextP T i - i = ((T.drop i).takeWhile Tr.blankT).length := by unfold nextP; omega
  rw [h2]
  generalize (T.drop i).takeWhile Tr.blankT = l1 at *
  rw [← h1]
  exact List.take_left' rfl
 have hx : senseL [leafP s b T[nextP T i]] = [leafP s b T[nextP T i]] := by
  unfold senseL leafP
  rw [List.filter_cons_of_pos]
  ·rfl
  ·unfold Tr.blankT at hb
   simp only [blankL, hb, Bool.not_false]
 unfold takeP
 dsimp only
 rw [e, List.take_succ_eq_append_getElem hl, List.map_append, sense_app, List.map_singleton, hg, hx, ht]
 have : senseL (((T.drop i).takeWhile Tr.blankT).map (leafP s b)) = [] := by
  unfold senseL
  rw [List.filter_eq_nil_iff]
  intro p hp
  obtain ⟨t, h1, rfl⟩ := List.mem_map.1 hp
  have := List.all_takeWhile (p := Tr.blankT) (l := T.drop i)
  have := List.all_eq_true.1 this t h1
  unfold Tr.blankT at this
  simp only [leafP, blankL, this]
  decide
 rw [this, List.nil_append]
theorem sense_is {w : List UInt8} {i : Nat} (h : isP s T [w] i = true) : ∃ k a, senseL (takeP s T b i).1 = [.leaf k w a] := by
 have hn := Tr.is_lt s T h
 rw [sense_take b hn]
 unfold isP at h
 rw [Tr.text_at s T _ hn] at h
 simp only [Bool.and_eq_true, List.contains_cons, List.contains_nil, Bool.or_false, beq_iff_eq] at h
 unfold leafP
 rw [h.2]
 exact ⟨_, _, rfl⟩
theorem sense_want (w : List UInt8) (i : Nat) : ∃ x, senseL (wantP s T b w i).1 = [x] ∧ WantX w x := by
 unfold wantP
 split
 ·rename_i h
  obtain ⟨k, a, h⟩ := sense_is b h
  exact ⟨_, h, .inl ⟨k, a, rfl⟩⟩
 ·exact ⟨_, rfl, .inr ⟨_, rfl⟩⟩
theorem sense_name (i : Nat) : ∃ x, senseL (nameP s T b i).1 = [x] ∧ NameX x := by
 unfold nameP
 split
 ·rename_i h
  have hn := Tr.kind_lt (k := 2) T (by simpa using h)
  rw [sense_take b hn]
  rw [Tr.kind_at T _ hn] at h
  have h := eq_of_beq h
  refine ⟨_, rfl, .inl ?_⟩
  unfold leafP
  rw [h]
  exact ⟨_, _, rfl⟩
 ·exact ⟨_, rfl, .inr ⟨_, rfl⟩⟩
theorem want_exprs {w : List UInt8} (hw : w ≠ sExpr) (i : Nat) : exprsL (wantP s T b w i).1 = [] := by
 unfold wantP
 split
 ·exact take_exprs b i
 ·simp [missP, exprsL, isExpr, hw]
theorem name_exprs (i : Nat) : exprsL (nameP s T b i).1 = [] := by
 unfold nameP
 split
 ·exact take_exprs b i
 ·unfold missP exprsL
  rw [List.filter_cons_of_neg (by simp only [isExpr]; decide)]
  rfl
theorem sense_one {r : PT × Nat} (h : isExpr r.1 = true) : senseL (oneP r).1 = [r.1] := by
 unfold oneP senseL
 rw [List.filter_cons_of_pos (by rw [(expr_kind h).2.1]; rfl)]
 rfl
theorem exprs_one {r : PT × Nat} (h : isExpr r.1 = true) : exprsL (oneP r).1 = [r.1] := by
 unfold oneP exprsL
 rw [List.filter_cons_of_pos h]
 rfl
include hT
theorem want_oks (w : List UInt8) : OkF (wantP s T b w) := fun i => by
 unfold wantP
 exact (take_oks b hT i).ite (OkS.one (by unfold shP; trivial) (by simp [kindOf]))
theorem name_oks : OkF (nameP s T b) := fun i => by
 unfold nameP
 split
 ·exact take_oks b hT i
 ·exact OkS.one (by unfold shP; trivial) (by simp [kindOf])
theorem many_oks {one : Nat → St} (ho : OkF one) : ∀ (f : Nat) (st : St), OkS st.1 → OkS (manyP s T b one f st).1
 | 0, st, h => h
 | f + 1, st, h => by
  rw [Tr.many_succ]
  split
  ·exact many_oks ho f _ ((h.thn (take_oks b hT)).thn ho)
  ·exact h
omit hT in
theorem plain_head {k : Nat} {l : List PT} (h7 : k ≠ 7) (h9 : k ≠ 9) (h18 : k ≠ 18) (h11 : k ≠ 11) (h : OkS l) : headOk k l :=
 ⟨fun e => absurd e h7, fun e => absurd e h9, fun e => absurd e h18, fun e => absurd e h11, fun _ p hp => (h p hp).2⟩
omit hT in
theorem sh_br {k i : Nat} {st : St} (hh : headOk k st.1) (h : OkS st.1) : shP (brP s T b k i st).1 := by
 unfold brP shP
 exact ⟨hh, h.shs⟩
theorem params_sh (i : Nat) : shP (paramsP s T b i).1 := by
 have h1 := want_oks b hT [40] i
 have h2 := many_oks b hT (name_oks b hT) (T.length + 1) _ (h1.thn (name_oks b hT))
 have h3 := ((h1.ite (p := isP s T [[41]] (wantP s T b [40] i).2) h2).thn (want_oks b hT [41]))
 exact sh_br b (plain_head (by omega) (by omega) (by omega) (by omega) h3) h3
theorem list_sh {e : Nat → St} (he : OkF e) {kind : Nat} (hk : kind = 12 ∨ kind = 13) (shut : List UInt8) (i : Nat) : shP (listP s T b e kind shut i).1 := by
 have h1 := take_oks b hT i
 have h2 := many_oks b hT he (T.length + 1) _ (h1.thn he)
 have h3 := (h1.ite (p := isP s T [shut] (takeP s T b i).2) h2).thn (want_oks b hT shut)
 exact sh_br b (plain_head (by omega) (by omega) (by omega) (by omega) h3) h3
omit hT in
theorem leafK_ways (k : Nat) (t : List UInt8) : leafK k t = 0 ∨ leafK k t = 15 ∨ leafK k t = 16 ∨ leafK k t = 17 ∨ leafK k t = 18 ∨ leafK k t = 19 := by
 unfold leafK
 repeat' split
 all_goals simp
theorem part_oke {e : Nat → St} (he : OkF e) : OkE (partP s T b e) := fun i => by
 unfold partP
 split
 ·rename_i h
  have hw := leafK_ways (kindP T (nextP T i)) (textP s T (nextP T i))
  have hn : nextP T i < T.length := by
   apply Nat.lt_of_not_le
   intro hn
   rw [Tr.kind_end T _ hn] at h
   simp [leafK] at h
  have hO := take_oks b hT i
  have hS := sense_take (s := s) b hn
  generalize leafK (kindP T (nextP T i)) (textP s T (nextP T i)) = k at *
  refine ⟨sh_br b ⟨fun e => by omega, fun e => by omega, fun _ => ⟨_, hS, rfl⟩, fun e => by omega, fun _ p hp => (hO p hp).2⟩ hO, ?_⟩
  simp [brP, isExpr]
  omega
 split
 ·have h := ((take_oks b hT i).thn he).thn (want_oks b hT [41])
  exact ⟨sh_br b (plain_head (by omega) (by omega) (by omega) (by omega) h) h, rfl⟩
 split
 ·exact ⟨list_sh b hT he (.inr rfl) [93] i, rfl⟩
 ·exact ⟨by unfold shP; trivial, by simp [isExpr]⟩
theorem calls_oke {e : Nat → St} (he : OkF e) : ∀ (f : Nat) (r : PT × Nat), shP r.1 ∧ isExpr r.1 = true → shP (callsP s T b e f r).1 ∧ isExpr (callsP s T b e f r).1 = true
 | 0, r, h => h
 | f + 1, r, h => by
  rw [Tr.calls_succ]
  split
  ·refine calls_oke he f _ ⟨?_, rfl⟩
   have h2 := list_sh b hT he (.inl rfl) [41] r.2
   unfold shP
   exact ⟨⟨fun e => by omega, fun e => by omega, fun e => by omega, fun _ => ⟨_, _, rfl, h.2, rfl, rfl⟩, fun e => absurd rfl e⟩, h.1, h2, trivial⟩
  ·exact h
theorem call_oke {e : Nat → St} (he : OkF e) : OkE (callP s T b e) := fun i => calls_oke b hT he _ _ (part_oke b hT he i)
theorem bin_oke {one : Nat → PT × Nat} (ho : OkE one) {r : PT × Nat} (h : shP r.1 ∧ isExpr r.1 = true) : shP (binP s T b one r).1 ∧ isExpr (binP s T b one r).1 = true := by
 have h1 := (take_oks b hT r.2).thn ho.one
 have h2 : OkS (r.1 :: (thn (takeP s T b r.2) (fun i => oneP (one i))).1) := (OkS.one h.1 (expr_kind h.2).1).app h1
 unfold binP
 refine ⟨?_, rfl⟩
 unfold shP
 exact ⟨plain_head (by omega) (by omega) (by omega) (by omega) h2, h2.shs⟩
theorem rows_oke {one : Nat → PT × Nat} (ho : OkE one) (signs : List (List UInt8)) : ∀ (f : Nat) (r : PT × Nat), shP r.1 ∧ isExpr r.1 = true → shP (rowsP s T b one signs f r).1 ∧ isExpr (rowsP s T b one signs f r).1 = true
 | 0, r, h => h
 | f + 1, r, h => by
  rw [Tr.rows_succ]
  split
  ·exact rows_oke ho signs f _ (bin_oke b hT ho h)
  ·exact h
theorem row_oke {one : Nat → PT × Nat} (ho : OkE one) (signs : List (List UInt8)) : OkE (rowP s T b one signs) := fun i => rows_oke b hT ho signs _ _ (ho i)
theorem comp_oke {e : Nat → St} (he : OkF e) : OkE (compP s T b e) := fun i => by
 have hs : OkE (sumP s T b e) := row_oke b hT (row_oke b hT (call_oke b hT he) _) _
 unfold compP
 split
 ·exact bin_oke b hT hs (hs i)
 ·exact hs i
theorem expr_oke : ∀ f, OkE (exprP s T b f)
 | 0 => fun i => ⟨by unfold exprP shP; trivial, by unfold exprP; simp [isExpr]⟩
 | f + 1 => fun i => by
  have hee := expr_oke f
  have he := hee.one
  have ht := take_oks b hT i
  rw [exprP]
  split
  ·rename_i hl
   have h := ((((ht.thn (name_oks b hT)).thn (want_oks b hT [61])).thn he).thn (want_oks b hT sIn)).thn he
   refine ⟨sh_br b ⟨fun _ => ⟨?_, ?_⟩, fun e => by omega, fun e => by omega, fun e => by omega, fun _ p hp => (h p hp).2⟩ h, rfl⟩
   ·obtain ⟨k, a, h0⟩ := sense_is b hl
    obtain ⟨x, h1, hx⟩ := sense_name (s := s) (T := T) b (takeP s T b i).2
    simp only [sense_thn, h0, h1, List.cons_append]
    exact ⟨_, _, _, rfl, rfl, hx.plain.1, hx.plain.2⟩
   ·simp only [exprs_thn, take_exprs, name_exprs, want_exprs _ (w := [61]) (by decide), want_exprs _ (w := sIn) (by decide), exprs_one (hee _).2, List.nil_append, List.append_nil]
    rfl
  split
  ·have h := ((((ht.thn he).thn (want_oks b hT sThen)).thn he).thn (want_oks b hT sElse)).thn he
   exact ⟨sh_br b (plain_head (by omega) (by omega) (by omega) (by omega) h) h, rfl⟩
  split
  ·rename_i hl
   have hp : OkF fun i => oneP (paramsP s T b i) := fun i => OkS.one (params_sh b hT i) (by simp [paramsP, brP, kindOf])
   have h := ((ht.thn hp).thn (want_oks b hT [61, 62])).thn he
   refine ⟨sh_br b ⟨fun e => by omega, fun _ => ?_, fun e => by omega, fun e => by omega, fun _ p hp => (h p hp).2⟩ h, rfl⟩
   obtain ⟨k, a, h0⟩ := sense_is b hl
   have h1 : ∀ j, senseL (oneP (paramsP s T b j)).1 = [(paramsP s T b j).1] := fun j => rfl
   simp only [sense_thn, h0, h1, List.cons_append]
   exact ⟨_, _, _, rfl, rfl, rfl, rfl⟩
  ·exact comp_oke b hT he i
structure UseX (l : List PT) : Prop where
 ex : ∃ x0 x1 x2 x3 r, l = x0 :: x1 :: x2 :: x3 :: r ∧ NameX x1 ∧ NameX x3 ∧ ((∃ x4, r = [x4] ∧ isW sAs x4 = false) ∨ ∃ x4 x5 x6, r = [x4, x5, x6] ∧ isW sAs x4 = true ∧ NameX x5)
structure DefX (l : List PT) : Prop where
 ex : ∃ x0 x1 r, l = x0 :: x1 :: r ∧ NameX x1 ∧ ((∃ x3 e x5, r = [x3, e, x5] ∧ isBr x3 = false ∧ shP e ∧ isExpr e = true) ∨ ∃ p x3 e x5, r = [p, x3, e, x5] ∧ isBr p = true ∧ kindOf p = 6 ∧ shP e ∧ isExpr e = true)
theorem pub_oks : OkF (pubP s T b) := fun i => by
 unfold pubP
 exact (take_oks b hT i).ite OkS.nil
omit hT in
theorem body_pub {l m : List PT} {x : PT} {r : List PT} (he : l = [] ∨ ∃ k a, l = [.leaf k sPub a]) (hm : m = x :: r) (hx : isW sPub x = false) : (if isW sPub (atP (l ++ m) 0) then (l ++ m).drop 1 else l ++ m) = m := by
 rcases he with rfl | ⟨k, a, rfl⟩
 ·subst hm
  simp [atP, hx]
 ·simp [atP, isW]
omit hT in
theorem sense_pub (i : Nat) : senseL (pubP s T b i).1 = [] ∨ ∃ k a, senseL (pubP s T b i).1 = [.leaf k sPub a] := by
 unfold pubP
 split
 ·rename_i h
  exact .inr (sense_is b h)
 ·exact .inl rfl
theorem item_shape (i : Nat) : ((kindOf (itemP s T b i).1 = 3 ∧ UseX (bodyOf (itemP s T b i).1)) ∨ (kindOf (itemP s T b i).1 = 4 ∧ DefX (bodyOf (itemP s T b i).1))) ∧ isBr (itemP s T b i).1 = true := by
 have hp := sense_pub (s := s) (T := T) b i
 unfold itemP
 split
 ·refine ⟨.inl ⟨rfl, ?_⟩, rfl⟩
  obtain ⟨x0, h0, hx0⟩ := sense_want (s := s) (T := T) b sUse (pubP s T b i).2
  obtain ⟨x1, h1, hx1⟩ := sense_name (s := s) (T := T) b (thn (pubP s T b i) (wantP s T b sUse)).2
  obtain ⟨x2, h2, hx2⟩ := sense_want (s := s) (T := T) b [46] (thn (thn (pubP s T b i) (wantP s T b sUse)) (nameP s T b)).2
  obtain ⟨x3, h3, hx3⟩ := sense_name (s := s) (T := T) b (thn (thn (thn (pubP s T b i) (wantP s T b sUse)) (nameP s T b)) (wantP s T b [46])).2
  unfold bodyOf senseP brP kidsOf
  dsimp only
  by_cases ha : isP s T [sAs] (thn (thn (thn (thn (pubP s T b i) (wantP s T b sUse)) (nameP s T b)) (wantP s T b [46])) (nameP s T b)).2 = true
  ·obtain ⟨k, a, h4⟩ := sense_is b ha
   obtain ⟨x5, h5, hx5⟩ := sense_name (s := s) (T := T) b (thn (thn (thn (thn (thn (pubP s T b i) (wantP s T b sUse)) (nameP s T b)) (wantP s T b [46])) (nameP s T b)) (takeP s T b)).2
   obtain ⟨x6, h6, hx6⟩ := sense_want (s := s) (T := T) b [59] (thn (thn (thn (thn (thn (thn (pubP s T b i) (wantP s T b sUse)) (nameP s T b)) (wantP s T b [46])) (nameP s T b)) (takeP s T b)) (nameP s T b)).2
   have e : senseL (useP s T b (pubP s T b i)).1 = senseL (pubP s T b i).1 ++ [x0, x1, x2, x3, .leaf k sAs a, x5, x6] := by
    unfold useP
    dsimp only
    rw [if_pos ha]
    simp only [sense_thn, h0, h1, h2, h3, h4, h5, h6, List.append_assoc, List.cons_append, List.nil_append]
   rw [e, body_pub hp rfl (hx0.is (by decide))]
   exact ⟨_, _, _, _, _, rfl, hx1, hx3, .inr ⟨_, _, _, rfl, by simp [isW], hx5⟩⟩
  ·obtain ⟨x6, h6, hx6⟩ := sense_want (s := s) (T := T) b [59] (thn (thn (thn (thn (pubP s T b i) (wantP s T b sUse)) (nameP s T b)) (wantP s T b [46])) (nameP s T b)).2
   have e : senseL (useP s T b (pubP s T b i)).1 = senseL (pubP s T b i).1 ++ [x0, x1, x2, x3, x6] := by
    unfold useP
    dsimp only
    rw [if_neg ha]
    simp only [sense_thn, h0, h1, h2, h3, h6, List.append_assoc, List.cons_append, List.nil_append]
   rw [e, body_pub hp rfl (hx0.is (by decide))]
   exact ⟨_, _, _, _, _, rfl, hx1, hx3, .inl ⟨_, rfl, hx6.is (by decide)⟩⟩
 ·refine ⟨.inr ⟨rfl, ?_⟩, rfl⟩
  obtain ⟨x0, h0, hx0⟩ := sense_want (s := s) (T := T) b sDef (pubP s T b i).2
  obtain ⟨x1, h1, hx1⟩ := sense_name (s := s) (T := T) b (thn (pubP s T b i) (wantP s T b sDef)).2
  unfold bodyOf senseP brP kidsOf
  dsimp only
  have hee := expr_oke b hT 65
  by_cases ha : isP s T [[40]] (thn (thn (pubP s T b i) (wantP s T b sDef)) (nameP s T b)).2 = true
  ·obtain ⟨x3, h3, hx3⟩ := sense_want (s := s) (T := T) b [61] (thn (thn (thn (pubP s T b i) (wantP s T b sDef)) (nameP s T b)) (fun i => oneP (paramsP s T b i))).2
   obtain ⟨x5, h5, hx5⟩ := sense_want (s := s) (T := T) b [59] (thn (thn (thn (thn (thn (pubP s T b i) (wantP s T b sDef)) (nameP s T b)) (fun i => oneP (paramsP s T b i))) (wantP s T b [61])) (fun i => oneP (exprP s T b 65 i))).2
   have hp2 : ∀ j, senseL (oneP (paramsP s T b j)).1 = [(paramsP s T b j).1] := fun j => rfl
   have e : ∃ p e, senseL (defP s T b (pubP s T b i)).1 = senseL (pubP s T b i).1 ++ [x0, x1, p, x3, e, x5] ∧ isBr p = true ∧ kindOf p = 6 ∧ shP e ∧ isExpr e = true := by
    unfold defP
    dsimp only
    rw [if_pos ha]
    simp only [sense_thn, h0, h1, h3, h5, hp2, sense_one (hee _).2, List.append_assoc, List.singleton_append]
    exact ⟨_, _, rfl, rfl, rfl, (hee _).1, (hee _).2⟩
   obtain ⟨p, e, e1, e2, e3, e4, e5⟩ := e
   rw [e1, body_pub hp rfl (hx0.is (by decide))]
   exact ⟨_, _, _, rfl, hx1, .inr ⟨_, _, _, _, rfl, e2, e3, e4, e5⟩⟩
  ·obtain ⟨x3, h3, hx3⟩ := sense_want (s := s) (T := T) b [61] (thn (thn (pubP s T b i) (wantP s T b sDef)) (nameP s T b)).2
   obtain ⟨x5, h5, hx5⟩ := sense_want (s := s) (T := T) b [59] (thn (thn (thn (thn (pubP s T b i) (wantP s T b sDef)) (nameP s T b)) (wantP s T b [61])) (fun i => oneP (exprP s T b 65 i))).2
   have e : ∃ e, senseL (defP s T b (pubP s T b i)).1 = senseL (pubP s T b i).1 ++ [x0, x1, x3, e, x5] ∧ shP e ∧ isExpr e = true := by
    unfold defP
    dsimp only
    rw [if_neg ha]
    simp only [sense_thn, h0, h1, h3, h5, sense_one (hee _).2, List.append_assoc, List.singleton_append]
    exact ⟨_, rfl, (hee _).1, (hee _).2⟩
   obtain ⟨e, e1, e4, e5⟩ := e
   rw [e1, body_pub hp rfl (hx0.is (by decide))]
   exact ⟨_, _, _, rfl, hx1, .inl ⟨_, _, _, rfl, (hx3.plain (by decide)).2, e4, e5⟩⟩
theorem item_oks (i : Nat) : OkS (kidsOf (itemP s T b i).1) := by
 have h0 := pub_oks b hT i
 unfold itemP
 split
 ·show OkS (useP s T b (pubP s T b i)).1
  unfold useP
  have h4 := (((h0.thn (want_oks b hT sUse)).thn (name_oks b hT)).thn (want_oks b hT [46])).thn (name_oks b hT)
  have h5 := (h4.thn (take_oks b hT)).thn (name_oks b hT)
  exact (h5.ite h4).thn (want_oks b hT [59])
 ·show OkS (defP s T b (pubP s T b i)).1
  unfold defP
  have hp : OkF fun i => oneP (paramsP s T b i) := fun i => OkS.one (params_sh b hT i) (by simp [paramsP, brP, kindOf])
  have h4 := (h0.thn (want_oks b hT sDef)).thn (name_oks b hT)
  exact ((((h4.thn hp).ite h4).thn (want_oks b hT [61])).thn (expr_oke b hT 65).one).thn (want_oks b hT [59])
end
structure ItX (p : PT) : Prop where
 br : isBr p = true
 kids : OkS (kidsOf p)
 ways : (kindOf p = 3 ∧ UseX (bodyOf p)) ∨ (kindOf p = 4 ∧ DefX (bodyOf p))
theorem kids_shape {s : List UInt8} {T : List (Nat × Nat × Nat)} (hT : ∀ t ∈ T, subT s t ≠ []) : ∀ (f i : Nat), ∀ k ∈ (Tr.kidsP s T f i).1, isItem k = true → ItX k.part
 | 0, i, k, hk, _ => by unfold Tr.kidsP at hk; exact absurd hk (by simp)
 | f + 1, i, k, hk, hi => by
  unfold Tr.kidsP at hk
  split at hk
  ·rcases List.mem_cons.1 hk with rfl | hk
   ·unfold isItem at hi
    dsimp only at hi ⊢
    unfold Tr.kidP at hi ⊢
    split at hi
    ·rename_i h
     rw [if_pos h]
     have := item_shape (Tr.absP s T i) hT i
     exact ⟨this.2, item_oks (Tr.absP s T i) hT i, this.1⟩
    ·exact absurd hi (by simp [Tr.junkP, brP, kindOf])
   ·exact kids_shape hT f _ k hk hi
  ·exact absurd hk (by simp)
end Go.Proofs.YtcjjfeephaddcaaGreatDoor.Sc
namespace Go.Proofs.YtcjjfeephaddcaaGreatDoor
open Go.RowKit
def Rd (w : World) (B size : Nat) (A : Option Addr) (n : Nat) (xs : List Value) : Prop :=
 xs.length = n * size ∧ (0 < n → ∃ b o, A = some ⟨b, o, none⟩ ∧ b < B ∧ ∀ j u, xs[j]? = some u → w.cell? ⟨b, o + j, none⟩ = some u)
section
variable {w w' : World} {B B' size n : Nat} {A : Option Addr} {xs : List Value}
theorem Rd.none_ : Rd w B size A 0 [] := ⟨by simp, fun h => absurd h (by omega)⟩
theorem Rd.keep (h : Rd w B size A n xs) (hk : ∀ b o, b < B → w'.cell? ⟨b, o, none⟩ = w.cell? ⟨b, o, none⟩) : Rd w' B size A n xs :=
 ⟨h.1, fun hn => by
  obtain ⟨b, o, e, hb, hc⟩ := h.2 hn
  exact ⟨b, o, e, hb, fun j u hu => (hk _ _ hb).trans (hc j u hu)⟩⟩
theorem Rd.more (h : Rd w B size A n xs) (hB : B ≤ B') : Rd w B' size A n xs :=
 ⟨h.1, fun hn => by
  obtain ⟨b, o, e, hb, hc⟩ := h.2 hn
  exact ⟨b, o, e, by omega, hc⟩⟩
theorem Rd.below (h : Rd w B size A n xs) (hb : Below B w w') : Rd w' B size A n xs := h.keep fun _ _ hp => hb.cell hp
theorem Rd.of_own {base : Nat} {e : TypeId} {c : Nat} (h : w.ownsRow base e size (.slice A n c) n xs) : Rd w w.heap.size size A n xs := by
 refine ⟨h.1, fun hn => ?_⟩
 obtain ⟨g, cap, hv, _, hlt⟩ := h.form hn
 have hA : A = some ⟨g, 0, none⟩ := by injection hv
 subst hA
 refine ⟨g, 0, rfl, hlt, fun j u hu => ?_⟩
 have := h.cells (g := g) rfl j u hu
 unfold Addr.add at this
 by_cases hj : j = 0
 ·subst hj; simpa using this
 ·simpa [hj] using this
end
theorem below_drewN {B : Nat} {a w : World} (h : Below B a w) (n : Nat) : Below B a (w.drewN n) := ⟨h.os, h.tape, h.output, h.size, h.block⟩
theorem ext_data (s : ByteArray) (a f : Nat) : (s.extract a f).data.toList = (s.data.toList.drop a).take (f - a) := by
 rw [ByteArray.data_extract, Array.toList_extract, List.extract_eq_take_drop]
theorem mk_size (l : List UInt8) : (⟨l.toArray⟩ : ByteArray).size = l.length := by show l.toArray.size = _; simp
theorem dlen (s : ByteArray) : s.data.toList.length = s.size := by rw [Array.length_toList]; rfl
theorem cell_alloc (w : World) (o : Obj) (b i : Nat) (h : b < w.heap.size) : (w.alloc o).cell? ⟨b, i, none⟩ = w.cell? ⟨b, i, none⟩ :=
 World.cell?_of_block (a := ⟨b, i, none⟩) (Below.heap_alloc w o b h)
def tyOf : Obj → Option TypeId
 | .cells _ t _ => some t
 | _ => none
def KeepX (T : List TypeId) (w w' : World) : Prop := ∀ (k : Nat) (o : Obj), w.heap[k]? = some o → (∀ t ∈ T, tyOf o ≠ some t) → w'.heap[k]? = some o
section
variable {T : List TypeId} {a w w' : World}
theorem lt_heap {w : World} {k : Nat} {o : Obj} (h : w.heap[k]? = some o) : k < w.heap.size := by
 rcases Nat.lt_or_ge k w.heap.size with h' | h'
 ·exact h'
 ·rw [Array.getElem?_eq_none h'] at h; cases h
theorem KeepX.refl (T : List TypeId) (w : World) : KeepX T w w := fun _ _ h _ => h
theorem KeepX.trans (h : KeepX T a w) (h' : KeepX T w w') : KeepX T a w' := fun k o hk ht => h' k o (h k o hk ht) ht
theorem KeepX.drew (h : KeepX T a w) : KeepX T a w.drew := h
theorem KeepX.drewN (h : KeepX T a w) (n : Nat) : KeepX T a (w.drewN n) := h
theorem KeepX.alloc (h : KeepX T a w) (o : Obj) : KeepX T a (w.alloc o) := fun k o' hk ht => by
 have := h k o' hk ht
 rw [Below.heap_alloc w o k (lt_heap this)]; exact this
theorem KeepX.below {B : Nat} (h : KeepX T a w) (hb : Below B w w') (hB : w.heap.size ≤ B) : KeepX T a w' := fun k o hk ht => by
 have := h k o hk ht
 rw [hb.block k (Nat.lt_of_lt_of_le (lt_heap this) hB)]; exact this
theorem KeepX.setCell (h : KeepX T a w) {p : Addr} {cs : Array Value} {t : TypeId} {fr : Nat × Nat} (hp : w.heap[p.block]? = some (.cells cs t fr)) (ht : t ∈ T) (u : Value) : KeepX T a (w.setCell p u) := fun k o hk hn => by
 have := h k o hk hn
 rw [Below.heap_setCell w p u k (fun e => by subst e; rw [this] at hp; injection hp with hp; subst hp; exact hn t ht rfl)]; exact this
theorem KeepX.grown (h : KeepX T a w) {row : Option Nat} (hg : w.grownBy w' row) (hr : ∀ g, row = some g → ∃ cs t fr, w.heap[g]? = some (.cells cs t fr) ∧ t ∈ T) : KeepX T a w' := fun k o hk hn => by
 have := h k o hk hn
 rw [hg.block k (lt_heap this) (fun e => by
  obtain ⟨cs, t, fr, h1, h2⟩ := hr k e.symm
  rw [this] at h1; injection h1 with h1; subst h1; exact hn t h2 rfl)]; exact this
theorem KeepX.mono {T' : List TypeId} (h : KeepX T a w) (hs : ∀ t ∈ T, t ∈ T') : KeepX T' a w := fun k o hk hn => h k o hk fun t ht => hn t (hs t ht)
end
theorem own_ty {w : World} {base : Nat} {e : TypeId} {size n : Nat} {v : Value} {xs : List Value} (h : w.ownsRow base e size v n xs) (g : Nat) (hg : v.ownBlock = some g) : ∃ cs fr, w.heap[g]? = some (.cells cs e fr) := by
 rcases h.2 with ⟨rfl, _⟩ | ⟨g', cap, cur, rfl, _, hh, _⟩
 ·simp [Value.ownBlock] at hg
 ·simp only [Value.ownBlock, Option.some.injEq] at hg; subst hg; exact ⟨_, _, hh⟩
def Blk (w : World) (g : Nat) (t : TypeId) (cs : Array Value) : Prop := w.heap[g]? = some (.cells cs t (0, 0))
section
variable {w w' : World} {g : Nat} {t : TypeId} {cs : Array Value}
theorem Blk.lt (h : Blk w g t cs) : g < w.heap.size := lt_heap h
theorem Blk.cell (h : Blk w g t cs) (i : Nat) : w.cell? ⟨g, i, none⟩ = cs[i]? := by unfold Blk at h; simp [World.cell?, h]
theorem Blk.frozen (h : Blk w g t cs) (i : Nat) : w.frozen? ⟨g, i, none⟩ = false := by unfold Blk at h; simp [World.frozen?, h]
theorem Blk.new (w : World) (t : TypeId) (cs : Array Value) : Blk (w.alloc (.cells cs t)) w.heap.size t cs := heap_alloc_new w _
theorem Blk.drew (h : Blk w g t cs) : Blk w.drew g t cs := h
theorem Blk.drewN (h : Blk w g t cs) (n : Nat) : Blk (w.drewN n) g t cs := h
theorem Blk.alloc (h : Blk w g t cs) (o : Obj) : Blk (w.alloc o) g t cs := (Below.heap_alloc w o g h.lt).trans h
theorem Blk.set_ (h : Blk w g t cs) (i : Nat) (u : Value) : Blk (w.setCell ⟨g, i, none⟩ u) g t (cs.setIfInBounds i u) := by
 unfold Blk at h ⊢
 simp [World.setCell, Array.getElem?_modify, h]
theorem Blk.far (h : Blk w g t cs) {p : Addr} (hp : g ≠ p.block) (u : Value) : Blk (w.setCell p u) g t cs := (Below.heap_setCell w p u g hp).trans h
theorem Blk.below {B : Nat} (h : Blk w g t cs) (hb : Below B w w') (hg : g < B) : Blk w' g t cs := (hb.block g hg).trans h
theorem Blk.keep {T : List TypeId} (h : Blk w g t cs) (hk : KeepX T w w') (ht : t ∉ T) : Blk w' g t cs :=
 hk g _ h fun t' ht' e => by simp only [tyOf, Option.some.injEq] at e; subst e; exact ht ht'
theorem Blk.grown {row : Option Nat} (h : Blk w g t cs) (hb : w.grownBy w' row) (hg : some g ≠ row) : Blk w' g t cs := (hb.block g h.lt hg).trans h
end
theorem own_ne {w : World} {base : Nat} {e t : TypeId} {size n : Nat} {v : Value} {xs : List Value} {g : Nat} {cs : Array Value} (h : w.ownsRow base e size v n xs) (hg : Blk w g t cs) (hne : e ≠ t) : some g ≠ v.ownBlock := fun e' => by
 obtain ⟨cs', fr, h1⟩ := own_ty h g e'.symm
 unfold Blk at hg; rw [hg] at h1; injection h1 with h1; injection h1 with _ h1 _; exact hne h1.symm
theorem own_of_block {w w' : World} {base : Nat} {e : TypeId} {size n : Nat} {v : Value} {xs : List Value} (h : w.ownsRow base e size v n xs)
  (hk : ∀ k, v.ownBlock = some k → w'.heap[k]? = w.heap[k]?) : w'.ownsRow base e size v n xs := by
 refine ⟨h.1, ?_⟩
 rcases h.2 with hn | ⟨g, cap, cur, rfl, hb, hgg, rest⟩
 ·exact .inl hn
 ·exact .inr ⟨g, cap, cur, rfl, hb, by rw [hk g rfl]; exact hgg, rest⟩
theorem own_mono {w : World} {base base' : Nat} {e : TypeId} {size n : Nat} {v : Value} {xs : List Value} (h : w.ownsRow base e size v n xs) (hb : base' ≤ base) : w.ownsRow base' e size v n xs := by
 refine ⟨h.1, ?_⟩
 rcases h.2 with hn | ⟨g, cap, cur, hv, hg, r⟩
 ·exact .inl hn
 ·exact .inr ⟨g, cap, cur, hv, Nat.le_trans hb hg, r⟩
theorem own_form {w : World} {base : Nat} {e : TypeId} {size n : Nat} {v : Value} {xs : List Value} (h : w.ownsRow base e size v n xs) : ∃ A cap, v = .slice A n cap := by
 rcases h.2 with ⟨rfl, rfl⟩ | ⟨g, cap, cur, rfl, _⟩
 ·exact ⟨none, 0, rfl⟩
 ·exact ⟨_, _, rfl⟩
theorem own_cell {w : World} {base : Nat} {e : TypeId} {size n g cap : Nat} {xs : List Value} (h : w.ownsRow base e size (.slice (some ⟨g, 0, none⟩) n cap) n xs) (j : Nat) (u : Value) (hu : xs[j]? = some u) : w.cell? ⟨g, j, none⟩ = some u := by
 have := h.cells (g := g) rfl j u hu
 have e : (⟨g, 0, none⟩ : Addr).add j = ⟨g, j, none⟩ := by unfold Addr.add; split <;> simp_all
 rwa [e] at this
abbrev Bs := List UInt8
def strV (b : Bs) : Value := .string ⟨b.toArray⟩
def txtV (l : List Bs) : List Value := l.map strV
theorem txtV_len (l : List Bs) : (txtV l).length = l.length := by simp [txtV]
theorem txtV_get (l : List Bs) {k : Nat} (hk : k < l.length) : (txtV l)[k]? = some (strV l[k]) := by
 simp [txtV, List.getElem?_eq_getElem hk]
theorem Rd.txt {w : World} {B : Nat} {A : Option Addr} {l : List Bs} {k : Nat} (h : Rd w B 1 A l.length (txtV l)) (hk : k < l.length) :
  ∃ b o, A = some ⟨b, o, none⟩ ∧ b < B ∧ w.cell? ⟨b, o + k, none⟩ = some (strV l[k]) := by
 obtain ⟨b, o, e, hb, hc⟩ := h.2 (by omega)
 exact ⟨b, o, e, hb, hc k _ (txtV_get l hk)⟩
theorem ext_str (s : Bs) (a f : Nat) : Value.string ((⟨s.toArray⟩ : ByteArray).extract a f) = strV ((s.take f).drop a) := by
 unfold strV
 congr 1
 rw [← Lib.mk_data ((⟨s.toArray⟩ : ByteArray).extract a f)]
 congr 2
 rw [ext_data]
 simp [List.drop_take]
end Go.Proofs.YtcjjfeephaddcaaGreatDoor
namespace Go.Proofs.YtcjjfeephaddcaaGreatDoor
def byteAt (l : List UInt8) (k : Nat) : Nat := (l[k]?.getD 0).toNat
def contAt (l : List UInt8) (k : Nat) : Bool := decide (k < l.length) && byteAt l k / 64 == 2
def dec (l : List UInt8) : Nat × Nat :=
 if byteAt l 0 < 0x80 then (byteAt l 0, 1)
 else if byteAt l 0 / 32 == 6 && contAt l 1 then
  if (byteAt l 0 % 32) * 64 + byteAt l 1 % 64 ≥ 0x80 then ((byteAt l 0 % 32) * 64 + byteAt l 1 % 64, 2) else (Utf8.runeError, 1)
 else if byteAt l 0 / 16 == 14 && contAt l 1 && contAt l 2 then
  if (byteAt l 0 % 16) * 4096 + (byteAt l 1 % 64) * 64 + byteAt l 2 % 64 ≥ 0x800 && Utf8.valid (((byteAt l 0 % 16) * 4096 + (byteAt l 1 % 64) * 64 + byteAt l 2 % 64 : Nat) : Int) then ((byteAt l 0 % 16) * 4096 + (byteAt l 1 % 64) * 64 + byteAt l 2 % 64, 3) else (Utf8.runeError, 1)
 else if byteAt l 0 / 8 == 30 && contAt l 1 && contAt l 2 && contAt l 3 then
  if (byteAt l 0 % 8) * 262144 + (byteAt l 1 % 64) * 4096 + (byteAt l 2 % 64) * 64 + byteAt l 3 % 64 ≥ 0x10000 && Utf8.valid (((byteAt l 0 % 8) * 262144 + (byteAt l 1 % 64) * 4096 + (byteAt l 2 % 64) * 64 + byteAt l 3 % 64 : Nat) : Int) then ((byteAt l 0 % 8) * 262144 + (byteAt l 1 % 64) * 4096 + (byteAt l 2 % 64) * 64 + byteAt l 3 % 64, 4) else (Utf8.runeError, 1)
 else (Utf8.runeError, 1)
theorem byte_get (s : ByteArray) (pos k : Nat) : (s.get! (pos + k)).toNat = byteAt (s.data.toList.drop pos) k := by
 unfold byteAt
 rw [List.getElem?_drop]
 show (s.data[pos + k]!).toNat = _
 rw [Array.getElem!_eq_getD, Array.getD_eq_getD_getElem?, Array.getElem?_toList]
 rfl
theorem cont_get (s : ByteArray) (pos k : Nat) : (decide (pos + k < s.size) && (s.get! (pos + k)).toNat / 64 == 2) = contAt (s.data.toList.drop pos) k := by
 unfold contAt
 rw [byte_get, List.length_drop, ← Go.Lib.size_eq]
 congr 1
 simp; omega
theorem decode_eq (s : ByteArray) (pos : Nat) : Utf8.decode s pos = dec (s.data.toList.drop pos) := by
 unfold Utf8.decode dec
 simp only [cont_get]
 simp only [byte_get]
theorem cont_lt {l : List UInt8} {k : Nat} (h : contAt l k = true) : k < l.length ∧ byteAt l k / 64 = 2 := by
 unfold contAt at h
 simpa using h
theorem dec_size (l : List UInt8) : 1 ≤ (dec l).2 ∧ (dec l).2 ≤ 4 ∧ ∀ j, 1 ≤ j → j < (dec l).2 → j < l.length ∧ byteAt l j / 64 = 2 := by
 unfold dec
 split
 ·exact ⟨by simp, by simp, fun j h1 h2 => by simp at h2; omega⟩
 split
 ·rename_i h
  simp only [Bool.and_eq_true] at h
  have h1 := cont_lt h.2
  split
  ·exact ⟨by simp, by simp, fun j h2 h3 => (by have e : j = 1 := (by simp at h3; omega); rw [e]; exact h1)⟩
  ·exact ⟨by simp, by simp, fun j h1 h2 => by simp at h2; omega⟩
 split
 ·rename_i h
  simp only [Bool.and_eq_true] at h
  have h1 := cont_lt h.1.2
  have h2 := cont_lt h.2
  split
  ·refine ⟨by simp, by simp, fun j h3 h4 => ?_⟩
   have h5 : j = 1 ∨ j = 2 := by simp at h4; omega
   rcases h5 with rfl | rfl <;> assumption
  ·exact ⟨by simp, by simp, fun j h1 h2 => by simp at h2; omega⟩
 split
 ·rename_i h
  simp only [Bool.and_eq_true] at h
  have h1 := cont_lt h.1.1.2
  have h2 := cont_lt h.1.2
  have h3 := cont_lt h.2
  split
  ·refine ⟨by simp, by simp, fun j h3 h4 => ?_⟩
   have h5 : j = 1 ∨ j = 2 ∨ j = 3 := by simp at h4; omega
   rcases h5 with rfl | rfl | rfl <;> assumption
  ·exact ⟨by simp, by simp, fun j h1 h2 => by simp at h2; omega⟩
 ·exact ⟨by simp, by simp, fun j h1 h2 => by simp at h2; omega⟩
theorem dec_le (l : List UInt8) (h : l ≠ []) : (dec l).2 ≤ l.length := by
 obtain ⟨h1, h2, h3⟩ := dec_size l
 rcases Nat.lt_or_ge 1 (dec l).2 with h4 | h4
 ·have := h3 ((dec l).2 - 1) (by omega) (by omega)
  omega
 ·have : 0 < l.length := List.length_pos_iff.2 h
  omega
theorem dec_big {l : List UInt8} (h : 128 ≤ byteAt l 0) : 128 ≤ (dec l).1 := by
 unfold dec
 rw [if_neg (by omega)]
 split
 ·split
  ·rename_i h; exact h
  ·show 128 ≤ Utf8.runeError; decide
 split
 ·split
  ·rename_i h
   simp only [Bool.and_eq_true, decide_eq_true_eq] at h
   show 128 ≤ _ ; omega
  ·show 128 ≤ Utf8.runeError; decide
 split
 ·split
  ·rename_i h
   simp only [Bool.and_eq_true, decide_eq_true_eq] at h
   show 128 ≤ _ ; omega
  ·show 128 ≤ Utf8.runeError; decide
 ·show 128 ≤ Utf8.runeError; decide
theorem dec_small {l : List UInt8} (h : byteAt l 0 < 128) : dec l = (byteAt l 0, 1) := by unfold dec; rw [if_pos (by omega)]
end Go.Proofs.YtcjjfeephaddcaaGreatDoor
namespace Go.Proofs.YtcjjfeephaddcaaGreatDoor.Lx
def letterB (c : Nat) : Bool := (decide (97 ≤ c) && decide (c ≤ 122) || decide (65 ≤ c) && decide (c ≤ 90) || c == 95) || (decide (192 ≤ c) && decide (c ≤ 591) && (c != 215 && c != 247)) || (decide (880 ≤ c) && decide (c ≤ 1023)) || (decide (1024 ≤ c) && decide (c ≤ 1279))
def digitB (c : Nat) : Bool := decide (48 ≤ c) && decide (c ≤ 57)
def spaceB (c : Nat) : Bool := c == 9 || c == 10 || c == 13 || c == 32
def bothB (c : Nat) : Bool := letterB c || digitB c
def runF (p : Nat → Bool) : Nat → List UInt8 → Nat
 | 0, _ => 0
 | f + 1, l => if l.isEmpty then 0 else if p (dec l).1 then (dec l).2 + runF p f (l.drop (dec l).2) else 0
def run (p : Nat → Bool) (l : List UInt8) : Nat := runF p l.length l
theorem runF_fuel (p : Nat → Bool) : ∀ (f g : Nat) (l : List UInt8), l.length ≤ f → l.length ≤ g → runF p f l = runF p g l
 | 0, 0, _, _, _ => rfl
 | 0, g + 1, l, h, _ => by
  have : l = [] := List.eq_nil_of_length_eq_zero (by omega)
  subst this; simp [runF]
 | f + 1, 0, l, _, h => by
  have : l = [] := List.eq_nil_of_length_eq_zero (by omega)
  subst this; simp [runF]
 | f + 1, g + 1, l, h1, h2 => by
  simp only [runF]
  cases hl : l.isEmpty with
  | true => rfl
  | false =>
   have hd := dec_size l
   rw [runF_fuel p f g (l.drop (dec l).2) (by rw [List.length_drop]; omega) (by rw [List.length_drop]; omega)]
theorem run_nil (p : Nat → Bool) : run p [] = 0 := rfl
theorem run_go (p : Nat → Bool) {l : List UInt8} (hl : l ≠ []) (hp : p (dec l).1 = true) : run p l = (dec l).2 + run p (l.drop (dec l).2) := by
 have hd := dec_size l
 have h0 : 0 < l.length := List.length_pos_iff.2 hl
 unfold run
 obtain ⟨f, hf⟩ : ∃ f, l.length = f + 1 := ⟨l.length - 1, by omega⟩
 rw [hf]
 simp only [runF]
 rw [if_neg (by simpa using hl), if_pos hp, runF_fuel p f (l.drop (dec l).2).length _ (by rw [List.length_drop]; omega) (by omega)]
theorem run_stop (p : Nat → Bool) {l : List UInt8} (hp : p (dec l).1 = false) : run p l = 0 := by
 unfold run
 cases l.length with
 | zero => rfl
 | succ f => simp only [runF]; rw [if_neg (by simp [hp] : ¬ p (dec l).1 = true)]; split <;> rfl
theorem run_le (p : Nat → Bool) : ∀ (n : Nat) (l : List UInt8), l.length = n → run p l ≤ l.length := by
 intro n
 induction n using Nat.strongRecOn with
 | _ n ih =>
  intro l hl
  by_cases h0 : l = []
  ·subst h0; simp [run_nil]
  ·cases hp : p (dec l).1 with
   | false => rw [run_stop p hp]; omega
   | true =>
    have hd := dec_size l
    have hle := dec_le l h0
    have := ih (l.drop (dec l).2).length (by rw [List.length_drop]; have := List.length_pos_iff.2 h0; omega) _ rfl
    rw [run_go p h0 hp]
    rw [List.length_drop] at this
    omega
def remM : Nat → List UInt8 → Option Nat
 | _, [] => none
 | _, [_] => none
 | d, a :: b :: t =>
  if a = 123 ∧ b = 45 then (remM (d + 1) t).map (· + 2)
  else if a = 45 ∧ b = 125 then (if d = 1 then some 2 else (remM (d - 1) t).map (· + 2))
  else (remM d (b :: t)).map (· + 1)
def hexV (b : UInt8) : Option Nat :=
 if 48 ≤ b.toNat ∧ b.toNat ≤ 57 then some (b.toNat - 48) else if 97 ≤ b.toNat ∧ b.toNat ≤ 102 then some (b.toNat - 87) else if 65 ≤ b.toNat ∧ b.toNat ≤ 70 then some (b.toNat - 55) else none
def hexN (acc : Nat) : List UInt8 → Option Nat
 | [] => some acc
 | b :: t => match hexV b with
  | some d => hexN (acc * 16 + d) t
  | none => none
def codeM (l : List UInt8) : Option (Nat × Nat) :=
 match l with
 | [] => none
 | a :: r =>
  if a ≠ 123 then none else
   if ¬ (125 ∈ r) then none else
    let D := r.takeWhile (· != 125)
    if D.length < 1 ∨ 6 < D.length then none else
     match hexN 0 D with
     | none => none
     | some n => if n > 1114111 ∨ (55296 ≤ n ∧ n ≤ 57343) then none else some (n, D.length + 2)
def escM (l : List UInt8) : Option (Nat × Nat) :=
 match l with
 | [] => none
 | a :: r => if a = 110 then some (10, 1) else if a = 116 then some (9, 1) else if a = 34 ∨ a = 92 then some (a.toNat, 1) else if a = 117 then (codeM r).map fun x => (x.1, x.2 + 1) else none
def textF : Nat → Bool → List UInt8 → Nat × Bool × Bool
 | 0, r, _ => (0, false, r)
 | f + 1, r, l =>
  match l with
  | [] => (0, false, r)
  | a :: t =>
   if a = 10 then (0, false, r)
   else if a = 34 then (1, true, r)
   else if a = 92 then
    match escM t with
    | some (_, n) => ((textF f r (t.drop n)).1 + (1 + n), (textF f r (t.drop n)).2)
    | none =>
     let n := if t.isEmpty ∨ byteAt t 0 = 10 then 0 else (dec t).2
     ((textF f false (t.drop n)).1 + (1 + n), (textF f false (t.drop n)).2)
   else ((textF f r t).1 + 1, (textF f r t).2)
def textM (l : List UInt8) : Nat × Bool × Bool := textF l.length true l
def twoM (l : List UInt8) : Bool := [61, 62].isPrefixOf l || [61, 61].isPrefixOf l || [43, 43].isPrefixOf l
def signs : List UInt8 := [40, 41, 91, 93, 44, 59, 61, 60, 43, 45, 42, 46, 63]
def signM (l : List UInt8) : Nat := if twoM l then 2 else match l with
 | [] => 0
 | a :: _ => if signs.contains a then 1 else 0
def words : List (List UInt8) := [[117, 115, 101], [97, 115], [112, 117, 98], [100, 101, 102], [108, 101, 116], [105, 110], [105, 102], [116, 104, 101, 110], [101, 108, 115, 101], [102, 117, 110], [116, 114, 117, 101], [102, 97, 108, 115, 101]]
def wordM (l : List UInt8) : Bool := words.contains l
def oneM (l : List UInt8) : Nat × Nat :=
 if spaceB (dec l).1 then (1, run spaceB l)
 else if [45, 45].isPrefixOf l then (2, (l.takeWhile (· != 10)).length)
 else if [123, 45].isPrefixOf l then
  match remM 1 (l.drop 2) with
  | some k => (2, k + 2)
  | none => (8, l.length)
 else if letterB (dec l).1 then (if wordM (l.take (run bothB l)) then 4 else 3, run bothB l)
 else if digitB (dec l).1 then (if run digitB l ≤ 18 then 5 else 8, run digitB l)
 else if (dec l).1 = 34 then (if (textM (l.drop 1)).2.1 ∧ (textM (l.drop 1)).2.2 then 6 else 8, (textM (l.drop 1)).1 + 1)
 else if signM l > 0 then (7, signM l)
 else (8, (dec l).2)
def tokF : Nat → Nat → List UInt8 → List (Nat × Nat × Nat)
 | 0, _, _ => []
 | f + 1, at_, l => if l.isEmpty then [] else ((oneM l).1, at_, (oneM l).2) :: tokF f (at_ + (oneM l).2) (l.drop (oneM l).2)
end Go.Proofs.YtcjjfeephaddcaaGreatDoor.Lx
