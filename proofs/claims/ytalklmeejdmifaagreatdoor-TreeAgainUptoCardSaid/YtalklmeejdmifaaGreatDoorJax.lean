/-
  JOINED of the texts YB YE YF Builder BB UP YP YG YI
-/
import Derived.Test.YtalklmeejdmifaaGreatDoorJaw
import Derived.Test.YtalklmeejdmifaaGreatDoorShelf
import Derived.Shelf.Strings.Builder1
namespace Go.Proofs.YtalklmeejdmifaaGreatDoor.Tr
structure Okd (s : List UInt8) (T : List (Nat × Nat × Nat)) (b i : Nat) (st : St) : Prop where
 up : i ≤ st.2
 le : st.2 ≤ T.length
 text : textsOf st.1 = sl s T i st.2
 ok : oksP b st.1 (absP s T i)
 base : b ≤ absP s T i
def OkF (s : List UInt8) (T : List (Nat × Nat × Nat)) (b : Nat) (f : Nat → St) : Prop := ∀ i, i ≤ T.length → b ≤ absP s T i → Okd s T b i (f i)
def OkO (s : List UInt8) (T : List (Nat × Nat × Nat)) (b : Nat) (f : Nat → PT × Nat) : Prop := OkF s T b fun i => oneP (f i)
section
variable {s : List UInt8} {T : List (Nat × Nat × Nat)} {b : Nat}
theorem wides_sl (hS : Side s T) {i : Nat} {st : St} (h : Okd s T b i st) : absP s T i + widesP st.1 = absP s T st.2 := by
 have h1 := wides_text st.1
 rw [h.text, sl_len hS.good h.up] at h1
 have := hS.good.up i st.2 h.up
 omega
theorem Okd.thn (hS : Side s T) {i : Nat} {st : St} {f : Nat → St} (h : Okd s T b i st) (hf : OkF s T b f) : Okd s T b i (thn st f) := by
 have h1 := hf st.2 h.le (Nat.le_trans h.base (hS.good.up i st.2 h.up))
 refine ⟨Nat.le_trans h.up h1.up, h1.le, ?_, ?_, h.base⟩
 ·unfold Tr.thn
  dsimp only
  rw [texts_app, h.text, h1.text]
  exact sl_add hS.good h.up h1.up
 ·unfold Tr.thn
  exact oks_app _ _ _ h.ok (by rw [wides_sl hS h]; exact h1.ok)
theorem Okd.ite {i : Nat} {st u : St} {p : Bool} (h : Okd s T b i st) (hu : Okd s T b i u) : Okd s T b i (if p then st else u) := by
 split
 ·exact h
 ·exact hu
theorem Okd.nil {i : Nat} (hi : i ≤ T.length) (hb : b ≤ absP s T i) : Okd s T b i ([], i) := ⟨Nat.le_refl _, hi, by rw [sl_self]; rfl, trivial, hb⟩
theorem Okd.br {i kind : Nat} {st : St} (h : Okd s T b i st) (hk : kind ≠ 5) : Okd s T b i (oneP (brP s T b kind i st)) := by
 refine ⟨h.up, h.le, ?_, ⟨⟨?_, h.ok, fun e => absurd e hk⟩, trivial⟩, h.base⟩
 ·simp only [oneP, brP, textsOf, textOf, List.append_nil, h.text]
 ·have := h.base
  unfold placeP
  omega
theorem Okd.around {i j kind : Nat} {p : PT} {l : List PT} (h : Okd s T b i (p :: l, j)) (hk : kind ≠ 5) : Okd s T b i ([.branch kind p.from_ (p :: l)], j) := by
 refine ⟨h.up, h.le, ?_, ⟨⟨ok_from h.ok.1, h.ok, fun e => absurd e hk⟩, trivial⟩, h.base⟩
 have := h.text
 simp only [textsOf, textOf, List.append_nil] at this ⊢
 exact this
variable (b) (hS : Side s T)
include hS
theorem leaves_ok : ∀ (n i : Nat), i + n ≤ T.length → b ≤ absP s T i → oksP b (((T.drop i).take n).map (leafP s b)) (absP s T i)
 | 0, i, _, _ => by rw [List.take_zero]; trivial
 | n + 1, i, h, hb => by
  have hi : i < T.length := by omega
  have h1 := hS.good.up i (i + 1) (Nat.le_succ i)
  have ih := leaves_ok n (i + 1) (by omega) (Nat.le_trans hb h1)
  rw [List.drop_eq_getElem_cons hi, List.take_succ_cons, List.map_cons]
  have h2 := abs_at s T i hi
  refine ⟨?_, ?_⟩
  ·show b + (T[i].2.1 - b) = absP s T i
   omega
  ·have h3 : (subT s T[i]).length = absP s T (i + 1) - absP s T i := by rw [sl_one hS hi, sl_len hS.good (Nat.le_succ i)]
   have h4 := put_end (leafP s b T[i]) (absP s T i)
   have h5 : wideP (leafP s b T[i]) = (subT s T[i]).length := rfl
   rw [h4, h5, h3, show absP s T i + (absP s T (i + 1) - absP s T i) = absP s T (i + 1) by omega]
   exact ih
theorem take_okd : OkF s T b (takeP s T b) := fun i hi hb => by
 have h1 := to_ge T i hi
 have h2 := to_le T i
 have h := (leaves_fine b hS (toP T i - i) i (by omega)).1
 rw [show i + (toP T i - i) = toP T i by omega] at h
 exact ⟨h1, h2, h, leaves_ok b hS (toP T i - i) i (by omega) hb, hb⟩
omit hS in
theorem miss_okd (w : List UInt8) : OkF s T b (missP s T b w) := fun i hi hb => by
 refine ⟨Nat.le_refl _, hi, by unfold missP; rw [sl_self]; rfl, ⟨?_, trivial⟩, hb⟩
 show b + placeP s T b i = _
 unfold placeP
 omega
theorem want_okd (w : List UInt8) : OkF s T b (wantP s T b w) := fun i hi hb => by
 unfold wantP
 exact (take_okd b hS i hi hb).ite (miss_okd b w i hi hb)
theorem name_okd : OkF s T b (nameP s T b) := fun i hi hb => by
 unfold nameP
 split
 ·exact take_okd b hS i hi hb
 ·exact miss_okd b sName i hi hb
theorem many_okd {one : Nat → St} (ho : OkF s T b one) {i : Nat} : ∀ (f : Nat) (st : St), Okd s T b i st → Okd s T b i (manyP s T b one f st)
 | 0, st, h => h
 | f + 1, st, h => by
  rw [many_succ]
  split
  ·exact many_okd ho f _ ((h.thn hS (take_okd b hS)).thn hS ho)
  ·exact h
theorem params_okd : OkO s T b (paramsP s T b) := fun i hi hb => by
 have h1 := want_okd b hS [40] i hi hb
 have h2 := many_okd b hS (name_okd b hS) (T.length + 1) _ (h1.thn hS (name_okd b hS))
 exact ((h1.ite (p := isP s T [[41]] (wantP s T b [40] i).2) h2).thn hS (want_okd b hS [41])).br (by omega)
theorem list_okd {e : Nat → St} (he : OkF s T b e) (kind : Nat) (hk : kind ≠ 5) (shut : List UInt8) : OkO s T b (listP s T b e kind shut) := fun i hi hb => by
 have h1 := take_okd b hS i hi hb
 have h2 := many_okd b hS he (T.length + 1) _ (h1.thn hS he)
 exact ((h1.ite (p := isP s T [shut] (takeP s T b i).2) h2).thn hS (want_okd b hS shut)).br hk
omit hS in
theorem leafK_ne (k : Nat) (t : List UInt8) : leafK k t ≠ 5 := by
 unfold leafK
 repeat' split
 all_goals omega
theorem part_okd {e : Nat → St} (he : OkF s T b e) : OkO s T b (partP s T b e) := fun i hi hb => by
 show Okd s T b i (oneP (partP s T b e i))
 unfold partP
 split
 ·exact (take_okd b hS i hi hb).br (leafK_ne _ _)
 split
 ·exact (((take_okd b hS i hi hb).thn hS he).thn hS (want_okd b hS [41])).br (by omega)
 split
 ·exact list_okd b hS he 13 (by omega) [93] i hi hb
 ·exact miss_okd b sExpr i hi hb
theorem calls_okd {e : Nat → St} (he : OkF s T b e) {i : Nat} : ∀ (f : Nat) (r : PT × Nat), Okd s T b i (oneP r) → Okd s T b i (oneP (callsP s T b e f r))
 | 0, r, h => h
 | f + 1, r, h => by
  rw [calls_succ]
  split
  ·refine calls_okd he f _ ?_
   have h2 := h.thn hS (list_okd b hS he 12 (by omega) [41])
   exact Okd.around (kind := 11) h2 (by omega)
  ·exact h
theorem call_okd {e : Nat → St} (he : OkF s T b e) : OkO s T b (callP s T b e) := fun i hi hb => calls_okd b hS he _ _ (part_okd b hS he i hi hb)
theorem bin_okd {one : Nat → PT × Nat} (ho : OkO s T b one) {i : Nat} {r : PT × Nat} (h : Okd s T b i (oneP r)) : Okd s T b i (oneP (binP s T b one r)) := by
 have h1 := (h.thn hS (take_okd b hS)).thn hS ho
 exact Okd.around (kind := 10) h1 (by omega)
theorem rows_okd {one : Nat → PT × Nat} (ho : OkO s T b one) (signs : List (List UInt8)) {i : Nat} : ∀ (f : Nat) (r : PT × Nat), Okd s T b i (oneP r) → Okd s T b i (oneP (rowsP s T b one signs f r))
 | 0, r, h => h
 | f + 1, r, h => by
  rw [rows_succ]
  split
  ·exact rows_okd ho signs f _ (bin_okd b hS ho h)
  ·exact h
theorem row_okd {one : Nat → PT × Nat} (ho : OkO s T b one) (signs : List (List UInt8)) : OkO s T b (rowP s T b one signs) := fun i hi hb => rows_okd b hS ho signs _ _ (ho i hi hb)
theorem comp_okd {e : Nat → St} (he : OkF s T b e) : OkO s T b (compP s T b e) := fun i hi hb => by
 have hs : OkO s T b (sumP s T b e) := row_okd b hS (row_okd b hS (call_okd b hS he) _) _
 show Okd s T b i (oneP (compP s T b e i))
 unfold compP
 split
 ·exact bin_okd b hS hs (hs i hi hb)
 ·exact hs i hi hb
theorem expr_okd : ∀ f, OkO s T b (exprP s T b f)
 | 0 => fun i hi hb => by
  have h := miss_okd (s := s) (T := T) b sExpr i hi hb
  exact ⟨h.up, h.le, h.text, h.ok, hb⟩
 | f + 1 => fun i hi hb => by
  have he := expr_okd f
  have ht := take_okd b hS i hi hb
  show Okd s T b i (oneP (exprP s T b (f + 1) i))
  rw [exprP]
  split
  ·exact (((((ht.thn hS (name_okd b hS)).thn hS (want_okd b hS [61])).thn hS he).thn hS (want_okd b hS sIn)).thn hS he).br (by omega)
  split
  ·exact (((((ht.thn hS he).thn hS (want_okd b hS sThen)).thn hS he).thn hS (want_okd b hS sElse)).thn hS he).br (by omega)
  split
  ·exact (((ht.thn hS (params_okd b hS)).thn hS (want_okd b hS [61, 62])).thn hS he).br (by omega)
  ·exact comp_okd b hS he i hi hb
theorem pub_okd : OkF s T b (pubP s T b) := fun i hi hb => by
 unfold pubP
 exact (take_okd b hS i hi hb).ite (Okd.nil hi hb)
theorem use_okd {i : Nat} {st : St} (h : Okd s T b i st) : Okd s T b i (useP s T b st) := by
 unfold useP
 have h4 := (((h.thn hS (want_okd b hS sUse)).thn hS (name_okd b hS)).thn hS (want_okd b hS [46])).thn hS (name_okd b hS)
 have h5 := (h4.thn hS (take_okd b hS)).thn hS (name_okd b hS)
 exact (h5.ite h4).thn hS (want_okd b hS [59])
theorem def_okd {i : Nat} {st : St} (h : Okd s T b i st) : Okd s T b i (defP s T b st) := by
 unfold defP
 have h4 := (h.thn hS (want_okd b hS sDef)).thn hS (name_okd b hS)
 have h5 := h4.thn hS (params_okd b hS)
 exact (((h5.ite h4).thn hS (want_okd b hS [61])).thn hS (expr_okd b hS 65)).thn hS (want_okd b hS [59])
theorem item_okd : OkO s T b (itemP s T b) := fun i hi hb => by
 have h0 := pub_okd b hS i hi hb
 show Okd s T b i (oneP (itemP s T b i))
 unfold itemP
 split
 ·exact (use_okd b hS h0).br (by omega)
 ·exact (def_okd b hS h0).br (by omega)
def EndT (st : St) : Prop := ∃ l k t x, st.1 = l ++ [.leaf k t x] ∧ ¬ (k = 1 ∨ k = 2)
omit hS in
theorem next_not (i : Nat) (hn : nextP T i < T.length) : blankT T[nextP T i] = false := by
 unfold nextP at hn ⊢
 have h1 : (T.drop i).takeWhile blankT ++ (T.drop i).dropWhile blankT = T.drop i := List.takeWhile_append_dropWhile
 generalize hk : ((T.drop i).takeWhile blankT).length = k at *
 have h2 : (T.drop i)[k]? = some T[i + k] := by rw [List.getElem?_drop, List.getElem?_eq_getElem hn]
 rw [← h1, List.getElem?_append_right (by omega), hk, Nat.sub_self] at h2
 cases hd : (T.drop i).dropWhile blankT with
 | nil => rw [hd] at h2; simp at h2
 | cons x l =>
  rw [hd] at h2
  simp only [List.getElem?_cons_zero, Option.some.injEq] at h2
  have := List.head_dropWhile_not blankT (l := T.drop i) (by rw [hd]; simp)
  rw [← h2]
  simpa [hd] using this
omit hS in
theorem take_end (i : Nat) (hn : nextP T i < T.length) : EndT (takeP s T b i) := by
 have h0 := next_ge T i
 have hb := next_not (T := T) i hn
 have e : toP T i - i = (nextP T i - i) + 1 := by unfold toP; omega
 have hl : nextP T i - i < (T.drop i).length := by rw [List.length_drop]; omega
 have hg : (T.drop i)[nextP T i - i] = T[nextP T i] := by
  rw [List.getElem_drop]
  congr 1
  omega
 unfold EndT takeP
 dsimp only
 rw [e, List.take_succ_eq_append_getElem hl, List.map_append, hg]
 refine ⟨_, _, _, _, rfl, ?_⟩
 unfold blankT at hb
 simpa using hb
omit hS in
theorem junk_br {i : Nat} {st : St} (h : Okd s T b i st) (he : EndT st) : Okd s T b i (oneP (brP s T b 5 i st)) := by
 refine ⟨h.up, h.le, ?_, ⟨⟨?_, h.ok, fun _ => ?_⟩, trivial⟩, h.base⟩
 ·simp only [oneP, brP, textsOf, textOf, List.append_nil, h.text]
 ·have := h.base
  unfold placeP
  omega
 ·obtain ⟨l, k, t, x, e, hk⟩ := he
  have e1 : putP (.branch 5 (placeP s T b i) st.1) (absP s T i) = putsP st.1 ⟨absP s T i, -1, -1, false⟩ := rfl
  rw [e1, e, puts_app]
  have h1 := puts_end l ⟨absP s T i, -1, -1, false⟩
  have h2 := puts_in l ⟨absP s T i, -1, -1, false⟩ ((putsP l ⟨absP s T i, -1, -1, false⟩).end_ : Int) (by rw [h1]; exact Int.le_refl _) (by unfold Pl.In; dsimp only; omega)
  generalize putsP l ⟨absP s T i, -1, -1, false⟩ = q at *
  obtain ⟨_, _, _, h3⟩ := h2
  have e2 : putP (.leaf k t x) q.end_ = ⟨q.end_ + t.length, (q.end_ : Int), ((q.end_ + t.length : Nat) : Int), false⟩ := by unfold putP; rw [if_neg hk]
  rw [e2]
  unfold joinP
  dsimp only
  constructor
  ·split <;> omega
  ·split <;> omega
theorem junks_okd {i : Nat} : ∀ (f : Nat) (last : Bool) (st : St), Okd s T b i st → Okd s T b i (junksP s T b f last st) ∧ (EndT st → EndT (junksP s T b f last st))
 | 0, _, st, h => ⟨h, id⟩
 | f + 1, last, st, h => by
  rw [junks_succ]
  split
  ·rename_i hi
   have h1 := junks_okd f (isP s T [[59]] st.2) _ (h.thn hS (take_okd b hS))
   refine ⟨h1.1, fun _ => h1.2 ?_⟩
   obtain ⟨l, k, t, x, e, hk⟩ := take_end (s := s) b st.2 hi.2.1
   exact ⟨st.1 ++ l, k, t, x, by unfold Tr.thn; dsimp only; rw [e, List.append_assoc], hk⟩
  ·exact ⟨h, id⟩
theorem junk_okd (i : Nat) (hi : i ≤ T.length) (hb : b ≤ absP s T i) (hn : nextP T i < T.length) (hs : startP s T i = false) : Okd s T b i (oneP (junkP s T b i)) := by
 unfold junkP
 have h1 := junks_succ s T b T.length false ([], i)
 rw [if_pos ⟨rfl, hn, hs⟩] at h1
 rw [h1]
 have h2 := junks_okd b hS T.length (isP s T [[59]] i) _ ((Okd.nil hi hb).thn hS (take_okd b hS))
 refine junk_br b h2.1 (h2.2 ?_)
 obtain ⟨l, k, t, x, e, hk⟩ := take_end (s := s) b i hn
 exact ⟨l, k, t, x, by unfold Tr.thn; dsimp only; rw [e, List.nil_append], hk⟩
theorem kid_okd (i : Nat) (hi : i ≤ T.length) (hn : nextP T i < T.length) : okP (absP s T i) (kidP s T i).1 (absP s T i) := by
 unfold kidP
 split
 ·exact (item_okd (absP s T i) hS i hi (Nat.le_refl _)).ok.1
 ·rename_i h
  exact (junk_okd (absP s T i) hS i hi (Nat.le_refl _) hn (by simpa using h)).ok.1
def kidsN (ks : List Kd) (out : List Nt) : List Nt := ks.foldl (fun o k => walkP (stepN k.base) k.part o) out
def tailN (ts : List PT) (out : List Nt) : List Nt := ts.foldl (fun o p => stepN 0 p o) out
theorem kids_notes : ∀ (f i : Nat) (out : List Nt), i ≤ T.length → kidsN (kidsP s T f i).1 out = out ++ rnotessP ((kidsP s T f i).1.map (·.part)) (absP s T i)
 | 0, i, out, _ => by unfold kidsP kidsN; simp [rnotessP]
 | f + 1, i, out, hi => by
  rw [kids_succ]
  split
  ·rename_i hn
   have h1 := kid_okd hS i hi hn
   obtain ⟨a1, a2, a3, a4⟩ := oneP_text ((kid_fine hS).at_ hi)
   have ih := kids_notes f (kidP s T i).2 (out ++ rnotesP (kidP s T i).1 (absP s T i)) a4
   have e : kidsN (kdP s T i :: (kidsP s T f (kidP s T i).2).1) out = kidsN (kidsP s T f (kidP s T i).2).1 (walkP (stepN (absP s T i)) (kidP s T i).1 out) := rfl
   have e1 : (kdP s T i).part = (kidP s T i).1 := rfl
   have h2 := put_end (kidP s T i).1 (absP s T i)
   have h3 := wide_text (kidP s T i).1
   rw [a1, sl_len hS.good a3] at h3
   have h4 := hS.good.up i _ a3
   rw [e, walk_notes _ _ _ h1, ih, List.map_cons, e1]
   simp only [rnotessP]
   rw [h2, h3, show absP s T i + (absP s T (kidP s T i).2 - absP s T i) = absP s T (kidP s T i).2 by omega, List.append_assoc]
  ·unfold kidsN; simp [rnotessP]
omit hS in
theorem tail_walks : ∀ (ts : List PT) (out : List Nt), (∀ p ∈ ts, ∃ k t a, p = .leaf k t a) → tailN ts out = walksP (stepN 0) ts out
 | [], out, _ => by unfold walksP; rfl
 | p :: l, out, h => by
  obtain ⟨k, t, a, rfl⟩ := h p (by simp)
  have ih := tail_walks l (stepN 0 (.leaf k t a) out) fun q hq => h q (List.mem_cons_of_mem _ hq)
  unfold walksP walkP
  exact ih
theorem tail_notes (i : Nat) (hi : i ≤ T.length) (out : List Nt) : tailN (tailP s T i) out = out ++ rnotessP (tailP s T i) (absP s T i) := by
 rw [tail_walks]
 ·refine walks_notes _ _ _ ?_
  have h := leaves_ok 0 hS (T.length - i) i (by omega) (Nat.zero_le _)
  have e : (T.drop i).take (T.length - i) = T.drop i := List.take_of_length_le (by rw [List.length_drop]; exact Nat.le_refl _)
  rwa [e] at h
 ·intro p hp
  unfold tailP at hp
  obtain ⟨t, _, rfl⟩ := List.mem_map.1 hp
  exact ⟨_, _, _, rfl⟩
theorem all_notes : tailN (tailP s T (kidsP s T (T.length + 1) 0).2) (kidsN (kidsP s T (T.length + 1) 0).1 []) = rnotesP (.branch 2 0 (allP s T)) 0 := by
 obtain ⟨c1, c2, c3, c4, c5⟩ := kids_fine hS (T.length + 1) 0 (Nat.zero_le _)
 have h1 := kids_notes hS (T.length + 1) 0 [] (Nat.zero_le _)
 have h2 := tail_notes hS (kidsP s T (T.length + 1) 0).2 c4 (kidsN (kidsP s T (T.length + 1) 0).1 [])
 have h3 := wides_text ((kidsP s T (T.length + 1) 0).1.map (·.part))
 rw [c1, sl_len hS.good c3, hS.first] at h3
 rw [h2, h1, hS.first]
 unfold rnotesP allP
 rw [rnotess_app, h3, if_neg (by omega)]
 simp
end
mutual
def cntP : PT → Nat
 | .leaf _ _ _ => 1
 | .gap _ _ _ => 1
 | .branch _ _ l => 1 + cntsP l
def cntsP : List PT → Nat
 | [] => 0
 | p :: l => cntP p + cntsP l
end
theorem cnts_app : ∀ (l m : List PT), cntsP (l ++ m) = cntsP l + cntsP m
 | [], m => by simp only [List.nil_append, cntsP, Nat.zero_add]
 | p :: l, m => by simp only [List.cons_append, cntsP, cnts_app l m]; omega
structure Ct (T : List (Nat × Nat × Nat)) (i : Nat) (c : Int) (st : St) : Prop where
 up : i ≤ st.2
 le : st.2 ≤ T.length
 cnt : (cntsP st.1 : Int) ≤ 20 * ((st.2 : Int) - i) + c
def CtF (T : List (Nat × Nat × Nat)) (f : Nat → St) (c : Int) : Prop := ∀ i, i ≤ T.length → Ct T i c (f i)
def CtO (T : List (Nat × Nat × Nat)) (f : Nat → PT × Nat) (c : Int) : Prop := CtF T (fun i => oneP (f i)) c
section
variable {T : List (Nat × Nat × Nat)} {i : Nat} {c d : Int} {st u : St}
theorem Ct.thn {f : Nat → St} (h : Ct T i c st) (hf : Ct T st.2 d (f st.2)) : Ct T i (c + d) (thn st f) := by
 refine ⟨Nat.le_trans h.up hf.up, hf.le, ?_⟩
 unfold Tr.thn
 dsimp only
 rw [cnts_app]
 have := h.cnt
 have := hf.cnt
 omega
theorem Ct.thnF {f : Nat → St} (h : Ct T i c st) (hf : CtF T f d) : Ct T i (c + d) (Tr.thn st f) := h.thn (hf st.2 h.le)
theorem Ct.mono (h : Ct T i c st) (hd : c ≤ d) : Ct T i d st := ⟨h.up, h.le, by have := h.cnt; omega⟩
theorem Ct.ite {p : Bool} (h : Ct T i c st) (hu : Ct T i c u) : Ct T i c (if p then st else u) := by
 split
 ·exact h
 ·exact hu
theorem Ct.nil (hi : i ≤ T.length) : Ct T i 0 ([], i) := ⟨Nat.le_refl _, hi, by simp [cntsP]⟩
theorem Ct.br {kind a : Nat} (h : Ct T i c st) : Ct T i (c + 1) ([.branch kind a st.1], st.2) := by
 refine ⟨h.up, h.le, ?_⟩
 simp only [cntsP, cntP]
 have := h.cnt
 omega
end
section
variable (s : List UInt8) (T : List (Nat × Nat × Nat)) (b : Nat)
theorem cnts_leaves : ∀ l : List (Nat × Nat × Nat), cntsP (l.map (leafP s b)) = l.length
 | [] => rfl
 | t :: l => by
  simp only [List.map_cons, cntsP, List.length_cons, cnts_leaves l]
  have : cntP (leafP s b t) = 1 := rfl
  omega
theorem take_ct : CtF T (takeP s T b) 0 := fun i hi => by
 have h1 := to_ge T i hi
 have h2 := to_le T i
 refine ⟨h1, h2, ?_⟩
 unfold takeP
 dsimp only
 rw [cnts_leaves, List.length_take, List.length_drop]
 omega
theorem take_ct1 (i : Nat) (hi : i ≤ T.length) (hn : nextP T i < T.length) : Ct T i (-19) (takeP s T b i) := by
 have h1 := to_gt T i hn
 have h2 := to_le T i
 refine ⟨by show i ≤ toP T i; omega, h2, ?_⟩
 unfold takeP
 dsimp only
 rw [cnts_leaves, List.length_take, List.length_drop]
 omega
theorem miss_ct (w : List UInt8) : CtF T (missP s T b w) 1 := fun i hi => ⟨Nat.le_refl _, hi, by unfold missP; simp [cntsP, cntP]⟩
theorem want_ct (w : List UInt8) : CtF T (wantP s T b w) 1 := fun i hi => by
 unfold wantP
 exact ((take_ct s T b i hi).mono (by omega)).ite (miss_ct s T b w i hi)
theorem name_ct : CtF T (nameP s T b) 1 := fun i hi => by
 unfold nameP
 split
 ·exact (take_ct s T b i hi).mono (by omega)
 ·exact miss_ct s T b sName i hi
theorem many_ct {one : Nat → St} (ho : CtF T one 1) {i : Nat} {c : Int} : ∀ (f : Nat) (st : St), Ct T i c st → Ct T i c (manyP s T b one f st)
 | 0, st, h => h
 | f + 1, st, h => by
  rw [many_succ]
  split
  ·rename_i hi
   exact many_ct ho f _ (((h.thn (take_ct1 s T b st.2 h.le (is_lt s T hi))).thnF ho).mono (by omega))
  ·exact h
theorem params_ct : CtO T (paramsP s T b) 4 := fun i hi => by
 have h1 := want_ct s T b [40] i hi
 have h2 := many_ct s T b (name_ct s T b) (T.length + 1) _ (h1.thnF (name_ct s T b))
 exact ((((h1.mono (by omega : (1 : Int) ≤ 2)).ite (p := isP s T [[41]] (wantP s T b [40] i).2) h2).thnF (want_ct s T b [41])).br).mono (by omega)
theorem list_ct {e : Nat → St} (he : CtF T e 1) (kind : Nat) (shut : List UInt8) (i : Nat) (hi : i ≤ T.length) (hn : nextP T i < T.length) : Ct T i (-16) (oneP (listP s T b e kind shut i)) := by
 have h1 := take_ct1 s T b i hi hn
 have h2 := many_ct s T b he (T.length + 1) _ (h1.thnF he)
 exact ((((h1.mono (by omega : (-19 : Int) ≤ -18)).ite (p := isP s T [shut] (takeP s T b i).2) h2).thnF (want_ct s T b shut)).br).mono (by omega)
theorem part_ct {e : Nat → St} (he : CtF T e 1) : CtO T (partP s T b e) 1 := fun i hi => by
 show Ct T i 1 (oneP (partP s T b e i))
 unfold partP
 split
 ·exact ((take_ct s T b i hi).br).mono (by omega)
 split
 ·rename_i h
  exact ((((take_ct1 s T b i hi (is_lt s T h)).thnF he).thnF (want_ct s T b [41])).br).mono (by omega)
 split
 ·rename_i h
  exact (list_ct s T b he 13 [93] i hi (is_lt s T h)).mono (by omega)
 ·exact miss_ct s T b sExpr i hi
theorem calls_ct {e : Nat → St} (he : CtF T e 1) {i : Nat} : ∀ (f : Nat) (r : PT × Nat), Ct T i 1 (oneP r) → Ct T i 1 (oneP (callsP s T b e f r))
 | 0, r, h => h
 | f + 1, r, h => by
  rw [calls_succ]
  split
  ·rename_i hi
   refine calls_ct he f _ ?_
   have h2 := h.thn (f := fun i => oneP (listP s T b e 12 [41] i)) (list_ct s T b he 12 [41] r.2 h.le (is_lt s T hi))
   exact (h2.br (kind := 11) (a := r.1.from_)).mono (by omega)
  ·exact h
theorem call_ct {e : Nat → St} (he : CtF T e 1) : CtO T (callP s T b e) 1 := fun i hi => calls_ct s T b he _ _ (part_ct s T b he i hi)
theorem bin_ct {one : Nat → PT × Nat} (ho : CtO T one 1) {i : Nat} {r : PT × Nat} (h : Ct T i 1 (oneP r)) (hn : nextP T r.2 < T.length) : Ct T i 1 (oneP (binP s T b one r)) := by
 have h1 := (h.thn (f := takeP s T b) (take_ct1 s T b r.2 h.le hn)).thnF ho
 exact (h1.br (kind := 10) (a := r.1.from_)).mono (by omega)
theorem rows_ct {one : Nat → PT × Nat} (ho : CtO T one 1) (signs : List (List UInt8)) {i : Nat} : ∀ (f : Nat) (r : PT × Nat), Ct T i 1 (oneP r) → Ct T i 1 (oneP (rowsP s T b one signs f r))
 | 0, r, h => h
 | f + 1, r, h => by
  rw [rows_succ]
  split
  ·rename_i hi
   exact rows_ct ho signs f _ (bin_ct s T b ho h (is_lt s T hi))
  ·exact h
theorem row_ct {one : Nat → PT × Nat} (ho : CtO T one 1) (signs : List (List UInt8)) : CtO T (rowP s T b one signs) 1 := fun i hi => rows_ct s T b ho signs _ _ (ho i hi)
theorem comp_ct {e : Nat → St} (he : CtF T e 1) : CtO T (compP s T b e) 1 := fun i hi => by
 have hs : CtO T (sumP s T b e) 1 := row_ct s T b (row_ct s T b (call_ct s T b he) _) _
 show Ct T i 1 (oneP (compP s T b e i))
 unfold compP
 split
 ·rename_i h
  exact bin_ct s T b hs (hs i hi) (is_lt s T h)
 ·exact hs i hi
theorem expr_ct : ∀ f, CtO T (exprP s T b f) 1
 | 0 => fun i hi => ⟨Nat.le_refl _, hi, by simp [oneP, exprP, cntsP, cntP]⟩
 | f + 1 => fun i hi => by
  have he := expr_ct f
  have ht := take_ct1 s T b i hi
  show Ct T i 1 (oneP (exprP s T b (f + 1) i))
  rw [exprP]
  split
  ·rename_i h
   exact (((((((ht (is_lt s T h)).thnF (name_ct s T b)).thnF (want_ct s T b [61])).thnF he).thnF (want_ct s T b sIn)).thnF he).br).mono (by omega)
  split
  ·rename_i h
   exact (((((((ht (is_lt s T h)).thnF he).thnF (want_ct s T b sThen)).thnF he).thnF (want_ct s T b sElse)).thnF he).br).mono (by omega)
  split
  ·rename_i h
   exact (((((ht (is_lt s T h)).thnF (params_ct s T b)).thnF (want_ct s T b [61, 62])).thnF he).br).mono (by omega)
  ·exact comp_ct s T b he i hi
theorem pub_ct : CtF T (pubP s T b) 0 := fun i hi => by
 unfold pubP
 exact (take_ct s T b i hi).ite (Ct.nil hi)
theorem use_ct {i : Nat} {st : St} (h : Ct T i 0 st) : Ct T i 6 (useP s T b st) := by
 unfold useP
 have h4 := (((h.thnF (want_ct s T b sUse)).thnF (name_ct s T b)).thnF (want_ct s T b [46])).thnF (name_ct s T b)
 have h5 := (h4.thnF (take_ct s T b)).thnF (name_ct s T b)
 exact ((h5.ite (h4.mono (by omega))).thnF (want_ct s T b [59])).mono (by omega)
theorem def_ct {i : Nat} {st : St} (h : Ct T i 0 st) : Ct T i 9 (defP s T b st) := by
 unfold defP
 have h4 := (h.thnF (want_ct s T b sDef)).thnF (name_ct s T b)
 have h5 := h4.thnF (params_ct s T b)
 exact ((((h5.ite (h4.mono (by omega))).thnF (want_ct s T b [61])).thnF (expr_ct s T b 65)).thnF (want_ct s T b [59])).mono (by omega)
theorem item_ct : CtO T (itemP s T b) 10 := fun i hi => by
 have h0 := pub_ct s T b i hi
 show Ct T i 10 (oneP (itemP s T b i))
 unfold itemP
 split
 ·exact ((use_ct s T b h0).br).mono (by omega)
 ·exact ((def_ct s T b h0).br).mono (by omega)
theorem junks_ct {i : Nat} : ∀ (f : Nat) (last : Bool) (st : St), Ct T i 0 st → Ct T i 0 (junksP s T b f last st)
 | 0, _, st, h => h
 | f + 1, last, st, h => by
  rw [junks_succ]
  split
  ·exact junks_ct f _ _ ((h.thnF (take_ct s T b)).mono (by omega))
  ·exact h
theorem kid_ct : CtO T (kidP s T) 10 := fun i hi => by
 show Ct T i 10 (oneP (kidP s T i))
 unfold kidP
 split
 ·exact item_ct s T _ i hi
 ·exact ((junks_ct s T (absP s T i) (T.length + 1) false ([], i) (Ct.nil hi)).br).mono (by omega)
theorem kids_ct : ∀ (f i : Nat), i ≤ T.length → i ≤ (kidsP s T f i).2 ∧ (kidsP s T f i).2 ≤ T.length ∧ cntsP ((kidsP s T f i).1.map (·.part)) ≤ 30 * ((kidsP s T f i).2 - i)
 | 0, i, hi => ⟨Nat.le_refl _, hi, by unfold kidsP; simp [cntsP]⟩
 | f + 1, i, hi => by
  rw [kids_succ]
  split
  ·rename_i hn
   have h1 := (kid_ct s T i hi).cnt
   have h2 : (kidP s T i).2 ≤ T.length := (kid_ct s T i hi).le
   have hg := kid_gt s T i hi hn
   obtain ⟨c1, c2, c3⟩ := kids_ct f (kidP s T i).2 h2
   have e : (kdP s T i).part = (kidP s T i).1 := rfl
   simp only [oneP, cntsP] at h1
   simp only [List.map_cons, cntsP, e]
   refine ⟨by omega, c2, by omega⟩
  ·exact ⟨Nat.le_refl _, hi, by simp [cntsP]⟩
theorem all_ct : cntP (.branch 2 0 (allP s T)) ≤ 30 * T.length + 1 := by
 obtain ⟨c1, c2, c3⟩ := kids_ct s T (T.length + 1) 0 (Nat.zero_le _)
 have h : cntsP (tailP s T (kidsP s T (T.length + 1) 0).2) = T.length - (kidsP s T (T.length + 1) 0).2 := by
  unfold tailP
  rw [cnts_leaves, List.length_drop]
 unfold cntP allP
 rw [cnts_app, h]
 omega
end
mutual
theorem rnotes_len : ∀ (p : PT) (a : Nat), (rnotesP p a).length ≤ cntP p
 | .leaf k t x, a => by
  unfold rnotesP cntP
  split <;> simp
 | .gap t x d, a => by unfold rnotesP cntP; simp
 | .branch k x l, a => by
  unfold rnotesP cntP
  rw [List.length_append]
  have := rnotess_len l a
  split <;> simp <;> omega
theorem rnotess_len : ∀ (l : List PT) (a : Nat), (rnotessP l a).length ≤ cntsP l
 | [], a => by unfold rnotessP cntsP; simp
 | p :: l, a => by
  unfold rnotessP cntsP
  rw [List.length_append]
  have := rnotes_len p a
  have := rnotess_len l (putP p a).end_
  omega
end
end Go.Proofs.YtalklmeejdmifaaGreatDoor.Tr
namespace Go.Proofs.YtalklmeejdmifaaGreatDoor
open Go.RowKit
theorem Tr.oks_mem {b : Nat} : ∀ (l : List Tr.PT) (a : Nat), Tr.oksP b l a → ∀ p ∈ l, ∃ a', Tr.okP b p a' ∧ a' + Tr.wideP p ≤ a + Tr.widesP l
 | [], _, _, p, hp => absurd hp (by simp)
 | q :: l, a, h, p, hp => by
  unfold Tr.oksP at h
  unfold Tr.widesP
  rcases List.mem_cons.1 hp with rfl | hp
  ·exact ⟨a, h.1, by omega⟩
  ·obtain ⟨a', h1, h2⟩ := Tr.oks_mem l _ h.2 p hp
   rw [Tr.put_end] at h2
   exact ⟨a', h1, by omega⟩
theorem Tr.ok_nums {b a N : Nat} {p : Tr.PT} (h : Tr.okP b p a) (hN : a + Tr.wideP p ≤ N) : b + p.from_ ≤ N ∧ b + p.to_ ≤ N ∧ 0 ≤ Tr.startOf p ∧ (b : Int) + Tr.startOf p ≤ N := by
 have h1 := Tr.ok_from h
 have h2 := Tr.ok_to p a h
 have h3 := Tr.start_put p a h
 obtain ⟨_, h4, _, _⟩ := Tr.put_in p a (N : Int) (by omega)
 refine ⟨by omega, by omega, ?_, ?_⟩
 ·unfold Tr.startOf Tr.startI
  split <;> omega
 ·unfold Tr.startOf Tr.startI
  rcases h3 with ⟨h5, h6⟩ | ⟨h5, h6⟩
  ·rw [if_pos (by omega)]; omega
  ·rw [if_neg (by omega)]; omega
def NtQ (b : Nat) (p : Tr.PT) : Prop := Tr.wfP p ∧ ∃ a, Tr.okP b p a ∧ a + Tr.wideP p ≤ 1000000000
theorem NtQ.sub {b k a : Nat} {l : List Tr.PT} (h : NtQ b (.branch k a l)) : l.length ≤ 1000000000 ∧ ∀ p ∈ l, NtQ b p := by
 obtain ⟨hw, a', ho, hn⟩ := h
 unfold Tr.wfP at hw
 unfold Tr.okP at ho
 unfold Tr.wideP at hn
 refine ⟨hw.2.1, fun p hp => ⟨wfs_mem l hw.2.2 p hp, ?_⟩⟩
 obtain ⟨a2, h1, h2⟩ := Tr.oks_mem l a' ho.2.1 p hp
 exact ⟨a2, h1, by omega⟩
theorem infoNote : (Tryz.prog.info? 50).map (fun i => (i.zero, i.size, i.bytes)) = some (some (.agg #[.int .i64 0, .int .i64 0, .int .i64 0]), 3, 24) := by kernel_rfl
def ntC : List Tr.Nt → List Value
 | [] => []
 | n :: l => .int .i64 n.1 :: .int .i64 n.2.1 :: .int .i64 (n.2.2 : Int) :: ntC l
theorem ntC_snoc (l : List Tr.Nt) (f t : Int) (e : Nat) : ntC (l ++ [(f, t, e)]) = ntC l ++ [.int .i64 f, .int .i64 t, .int .i64 (e : Int)] := by
 induction l with
 | nil => rfl
 | cons n l ih => simp only [List.cons_append, ntC, ih]
structure NtB (w : World) (B ob : Nat) (out : List Tr.Nt) (A : Option Addr) (c : Nat) : Prop where
 blk : Blk w ob 31 #[.slice A out.length c]
 own : w.ownsRow B 50 3 (.slice A out.length c) out.length (ntC out)
def NtI (w0 : World) (ob : Nat) (out : List Tr.Nt) (w : World) : Prop := (∃ A c, NtB w w0.heap.size ob out A c) ∧ w0.heap.size ≤ ob ∧ Below w0.heap.size w0 w
theorem NtB.below {w w' : World} {B ob : Nat} {out : List Tr.Nt} {A : Option Addr} {c : Nat} (h : NtB w B ob out A c) (hb : Below w.heap.size w w') : NtB w' B ob out A c :=
 ⟨h.blk.below hb h.blk.lt, own_of_block h.own fun y hy => hb.block y (h.own.lt y hy).2⟩
theorem nt_push {w0 w w5 : World} {ob : Nat} {out : List Tr.Nt} {A : Option Addr} {c gg cap : Nat} {f t : Int} {e : Nat}
  (hN : NtB w w0.heap.size ob out A c) (hob : w0.heap.size ≤ ob) (hd : Below w0.heap.size w0 w)
  (hown5 : w5.ownsRow w0.heap.size 50 3 (.slice (some ⟨gg, 0, none⟩) (out.length + 1) cap) (out.length + 1) (ntC out ++ [.int .i64 f, .int .i64 t, .int .i64 (e : Int)]))
  (hgrow : (w.alloc (.cells #[.int .i64 f, .int .i64 t, .int .i64 (e : Int)] 50)).grownBy w5 (Value.slice A out.length c).ownBlock) :
  w5.cell? ⟨ob, 0, none⟩ = some (.slice A out.length c) ∧ w5.frozen? ⟨ob, 0, none⟩ = false ∧ NtI w0 ob (out ++ [(f, t, e)]) (w5.setCell ⟨ob, 0, none⟩ (.slice (some ⟨gg, 0, none⟩) (out.length + 1) cap)) ∧ KeepX [31, 50] w (w5.setCell ⟨ob, 0, none⟩ (.slice (some ⟨gg, 0, none⟩) (out.length + 1) cap)) := by
 have hb5 := (hN.blk.alloc (.cells #[.int .i64 f, .int .i64 t, .int .i64 (e : Int)] 50)).grown hgrow (own_ne hN.own hN.blk (by decide))
 have hne := own_ne hown5 hb5 (by decide)
 have hb6 := hb5.set_ 0 (.slice (some ⟨gg, 0, none⟩) (out.length + 1) cap)
 simp at hb6
 have hlen : (out ++ [(f, t, e)]).length = out.length + 1 := by simp
 refine ⟨by have := hb5.cell 0; simpa using this, hb5.frozen 0, ⟨⟨some ⟨gg, 0, none⟩, cap, ?_, ?_⟩, hob, ?_⟩, ?_⟩
 ·rw [hlen]; exact hb6
 ·rw [hlen, ntC_snoc]
  exact own_of_block hown5 fun y hy => Below.heap_setCell w5 ⟨ob, 0, none⟩ _ y (fun e => hne (by have e : y = ob := e; rw [← e]; exact hy.symm))
 ·exact ((hd.alloc hd.size _).grown hgrow (by have := hd.size; simp; omega) (fun y hy => (hN.own.lt y hy).1)).setCell (p := ⟨ob, 0, none⟩) hob _
 ·refine (((KeepX.refl _ w).alloc _).grown hgrow fun g hg => ?_).setCell (p := ⟨ob, 0, none⟩) hb5 (by simp) _
  obtain ⟨cs, fr, hh⟩ := own_ty hN.own g hg
  exact ⟨cs, _, fr, (Below.heap_alloc w _ g (lt_heap hh)).trans hh, by simp⟩
theorem nt_lit (w : World) (f t e : Value) : ∀ j u, [f, t, e][j]? = some u → (w.alloc (.cells #[f, t, e] 50)).cell? (Addr.add ⟨w.heap.size, 0, none⟩ j) = some u := World.news_of_block (cs := #[f, t, e]) (t := 50) (fr := (0, 0)) (heap_alloc_new w _)
def NoteE (w0 w : World) (ob : Nat) (out : List Tr.Nt) (e : Ending) (w' : World) : Prop := e = .returned (.tuple #[]) ∧ NtI w0 ob out w' ∧ KeepX [31, 50] w w'
set_option maxHeartbeats 4000000 in
set_option maxRecDepth 100000 in
theorem note_leaf {w0 w : World} {F : Nat → Prop} {ob b q k x : Nat} {t : Bs} {out : List Tr.Nt} (hp : PtF w0 F (.leaf k t x) (.iface 104 (.pointer (some ⟨q, 0, none⟩)))) (hQ : NtQ b (.leaf k t x)) (hI : NtI w0 ob out w) (hl : out.length ≤ 1000000000) :
  Calls Tryz.prog 45 #[.int .i64 (b : Int), .iface 104 (.pointer (some ⟨q, 0, none⟩)), .pointer (some ⟨ob, 0, none⟩)] w (NoteE w0 w ob (Tr.stepN b (.leaf k t x) out)) := by
 obtain ⟨i0, ji, jz0, jz1, jz2⟩ := info_parts infoNote
 obtain ⟨⟨A, c, hN⟩, hob, hd⟩ := hI
 have hw := hQ.1
 obtain ⟨_, a, ho, hn⟩ := hQ
 obtain ⟨n1, n2, n5, n6⟩ := Tr.ok_nums ho hn
 obtain ⟨t1, q1, f1, e1, fn1, fm1, fc1, fcl⟩ := hp.from_
 injection e1 with e1 e1'
 subst e1
 obtain rfl : q = q1 := by simpa using e1'
 clear e1'
 obtain ⟨t2, q2, f2, e2, tn1, tm1, tc1, tcl⟩ := to_all _ hw w0 F _ hp (by omega)
 injection e2 with e2 e2'
 subst e2
 obtain rfl : q = q2 := by simpa using e2'
 clear e2'
 have fcl := fcl w hd
 have tcl := tcl w hd
 unfold ToE at tcl
 have n3 : Tr.PT.to_ (.leaf k t x) = x + t.length := by unfold Tr.PT.to_; rfl
 have n4 : Tr.PT.from_ (.leaf k t x) = x := rfl
 rw [n3] at n2 tcl
 rw [n4] at n1 fcl
 obtain ⟨q', e0, hF, hB⟩ := hp
 injection e0 with _ e0
 obtain rfl : q = q' := by simpa using e0
 have k0 := (hB.below hd hB.lt).cell 0
 simp at k0
 have HP : Hid (Tr.stepN b (.leaf k t x) out = out ++ (if k = 8 then [((b : Int) + (x : Int), (b : Int) + ((x + t.length : Nat) : Int), 3)] else [])) := by
  show _ = _
  unfold Tr.stepN
  rw [Tr.note_leaf]
  simp only [Int.natCast_add]
 have has := fun w => as_leaf_leaf ⟨q, 0, none⟩ w
 clear n3 n4 n5 n6 e0 hF hB
 generalize Tr.stepN b (.leaf k t x) out = res at *
 generalize x + t.length = y at *
 have a0 : IntKind.i64.wrap ((b : Int) + (x : Int)) = (b : Int) + (x : Int) := IntWalk.i64_in _ (by omega)
 have a1 : IntKind.i64.wrap ((b : Int) + (y : Int)) = (b : Int) + (y : Int) := IntWalk.i64_in _ (by omega)
 have Hl := Lib.hid hl
 have Hob := Lib.hid hob
 clear n1 n2 ho hn hw hl
 go_enter Tryz.func45, Tryz.ntmps45
 go_wp2_with fail
 refine fcl.mono ?_
 clear fcl
 rintro e w' ⟨rfl, rfl⟩
 go_wp2_with fail
 refine tcl.mono ?_
 clear tcl
 rintro e w2 ⟨rfl, n, rfl⟩
 have hk0 : KeepX [31, 50] w' (w'.drewN n) := (KeepX.refl _ _).drewN n
 have hN := hN.below (below_drewN (Below.refl _ _) n)
 have hd := below_drewN hd n
 have k0 : (w'.drewN n).cell? ⟨q, 0, none⟩ = some (.int .i64 (k : Int)) := k0
 generalize w'.drewN n = w2 at *
 have hNc := hN.blk.cell 0
 simp at hNc
 by_cases hk : k = 8
 ·have HP : Hid (res = out ++ [((b : Int) + (x : Int), (b : Int) + (y : Int), 3)]) := by show _ = _; rw [HP.out, if_pos hk]
  have e8 : ((k : Int) == 8) = true := by simp; omega
  clear hk
  go_wp2_with (at_builtin; refine wpList_append_lies _ rfl _ _ 31 rfl w0.heap.size 50 i0 _ 3 24 Tryz.underlying31 ji jz0 jz1 jz2 rfl (by omega) (.slice A out.length c) out.length (ntC out) rfl (hN.own.alloc _) ⟨w2.heap.size, 0, none⟩ 1 1 [.int .i64 ((b : Int) + (x : Int)), .int .i64 ((b : Int) + (y : Int)), .int .i64 3] rfl rfl (nt_lit w2 _ _ _) (by simp [Value.oneCell']) (by omega) (by have := Hl.out; unfold maxLen; omega) (by have := Hl.out; omega) (by have := hd.size; simp; omega) (w2.heap.size + 1) (by simp) ?_; intro gg cap' w5 hown5 hgrow hat hlt5; obtain ⟨p0, pf, hI5, hK5⟩ := nt_push hN Hob.out hd hown5 hgrow)
  go_end0
  exact ⟨rfl, by rw [HP.out]; exact hI5, hk0.trans hK5⟩
 ·have HP : Hid (res = out) := by show _ = _; rw [HP.out, if_neg hk, List.append_nil]
  have e8 : ((k : Int) == 8) = false := by simp; omega
  clear hk
  go_wp2_with fail
  go_end0
  exact ⟨rfl, by rw [HP.out]; exact ⟨⟨A, c, hN⟩, Hob.out, hd⟩, hk0⟩
set_option maxHeartbeats 4000000 in
set_option maxRecDepth 100000 in
theorem note_gap {w0 w : World} {F : Nat → Prop} {ob b q x : Nat} {t : Bs} {dp : Bool} {out : List Tr.Nt} (hp : PtF w0 F (.gap t x dp) (.iface 107 (.pointer (some ⟨q, 0, none⟩)))) (hQ : NtQ b (.gap t x dp)) (hI : NtI w0 ob out w) (hl : out.length ≤ 1000000000) :
  Calls Tryz.prog 45 #[.int .i64 (b : Int), .iface 107 (.pointer (some ⟨q, 0, none⟩)), .pointer (some ⟨ob, 0, none⟩)] w (NoteE w0 w ob (Tr.stepN b (.gap t x dp) out)) := by
 obtain ⟨i0, ji, jz0, jz1, jz2⟩ := info_parts infoNote
 obtain ⟨⟨A, c, hN⟩, hob, hd⟩ := hI
 have hw := hQ.1
 obtain ⟨_, a, ho, hn⟩ := hQ
 obtain ⟨n1, n2, n5, n6⟩ := Tr.ok_nums ho hn
 obtain ⟨t1, q1, f1, e1, fn1, fm1, fc1, fcl⟩ := hp.from_
 injection e1 with e1 e1'
 subst e1
 obtain rfl : q = q1 := by simpa using e1'
 clear e1'
 obtain ⟨t2, q2, f2, e2, tn1, tm1, tc1, tcl⟩ := to_all _ hw w0 F _ hp (by omega)
 injection e2 with e2 e2'
 subst e2
 obtain rfl : q = q2 := by simpa using e2'
 clear e2'
 have fcl := fcl w hd
 have tcl := tcl w hd
 unfold ToE at tcl
 have n3 : Tr.PT.to_ (.gap t x dp) = x := by unfold Tr.PT.to_; rfl
 have n4 : Tr.PT.from_ (.gap t x dp) = x := rfl
 rw [n3] at n2 tcl
 rw [n4] at n1 fcl
 have HP : Hid (Tr.stepN b (.gap t x dp) out = out ++ [((b : Int) + (x : Int), (b : Int) + (x : Int), 9)]) := by
  show _ = _
  unfold Tr.stepN
  rw [Tr.note_gap]
  simp only [Int.natCast_add]
 have has1 := fun w => as_gap_leaf ⟨q, 0, none⟩ w
 have has2 := fun w => as_gap_gap ⟨q, 0, none⟩ w
 clear n3 n4 n5 n6 hp
 generalize Tr.stepN b (.gap t x dp) out = res at *
 have a0 : IntKind.i64.wrap ((b : Int) + (x : Int)) = (b : Int) + (x : Int) := IntWalk.i64_in _ (by omega)
 have a1 : IntKind.i64.wrap ((b : Int) + (x : Int)) = (b : Int) + (x : Int) := IntWalk.i64_in _ (by omega)
 have Hl := Lib.hid hl
 have Hob := Lib.hid hob
 clear n1 n2 ho hn hw hl
 go_enter Tryz.func45, Tryz.ntmps45
 go_wp2_with fail
 refine fcl.mono ?_
 clear fcl
 rintro e w' ⟨rfl, rfl⟩
 go_wp2_with fail
 refine tcl.mono ?_
 clear tcl
 rintro e w2 ⟨rfl, n, rfl⟩
 have hk0 : KeepX [31, 50] w' (w'.drewN n) := (KeepX.refl _ _).drewN n
 have hN := hN.below (below_drewN (Below.refl _ _) n)
 have hd := below_drewN hd n
 generalize w'.drewN n = w2 at *
 have hNc := hN.blk.cell 0
 simp at hNc
 go_wp2_with (at_builtin; refine wpList_append_lies _ rfl _ _ 31 rfl w0.heap.size 50 i0 _ 3 24 Tryz.underlying31 ji jz0 jz1 jz2 rfl (by omega) (.slice A out.length c) out.length (ntC out) rfl (hN.own.alloc _) ⟨w2.heap.size, 0, none⟩ 1 1 [.int .i64 ((b : Int) + (x : Int)), .int .i64 ((b : Int) + (x : Int)), .int .i64 9] rfl rfl (nt_lit w2 _ _ _) (by simp [Value.oneCell']) (by omega) (by have := Hl.out; unfold maxLen; omega) (by have := Hl.out; omega) (by have := hd.size; simp; omega) (w2.heap.size + 1) (by simp) ?_; intro gg cap' w5 hown5 hgrow hat hlt5; obtain ⟨p0, pf, hI5, hK5⟩ := nt_push hN Hob.out hd hown5 hgrow)
 go_end0
 exact ⟨rfl, by rw [HP.out]; exact hI5, hk0.trans hK5⟩
set_option maxHeartbeats 4000000 in
set_option maxRecDepth 100000 in
theorem note_branch {w0 w : World} {F : Nat → Prop} {ob b q k x : Nat} {l : List Tr.PT} {out : List Tr.Nt} (hp : PtF w0 F (.branch k x l) (.iface 90 (.pointer (some ⟨q, 0, none⟩)))) (hQ : NtQ b (.branch k x l)) (hI : NtI w0 ob out w) (hl : out.length ≤ 1000000000) :
  Calls Tryz.prog 45 #[.int .i64 (b : Int), .iface 90 (.pointer (some ⟨q, 0, none⟩)), .pointer (some ⟨ob, 0, none⟩)] w (NoteE w0 w ob (Tr.stepN b (.branch k x l) out)) := by
 obtain ⟨i0, ji, jz0, jz1, jz2⟩ := info_parts infoNote
 obtain ⟨⟨A, c, hN⟩, hob, hd⟩ := hI
 have hw := hQ.1
 obtain ⟨_, a, ho, hn⟩ := hQ
 obtain ⟨n1, n2, n5, n6⟩ := Tr.ok_nums ho hn
 obtain ⟨t1, q1, f1, e1, fn1, fm1, fc1, fcl⟩ := hp.from_
 injection e1 with e1 e1'
 subst e1
 obtain rfl : q = q1 := by simpa using e1'
 clear e1'
 obtain ⟨t2, q2, f2, e2, tn1, tm1, tc1, tcl⟩ := to_all _ hw w0 F _ hp (by omega)
 injection e2 with e2 e2'
 subst e2
 obtain rfl : q = q2 := by simpa using e2'
 clear e2'
 have fcl := fcl w hd
 have tcl := tcl w hd
 unfold ToE at tcl
 have hst := fun w' hb => start_walkT (w := w') hw hp (by omega) hb
 obtain ⟨q', e0, hF, _, _, _, hB, _⟩ := hp
 injection e0 with _ e0
 obtain rfl : q = q' := by simpa using e0
 have k0 := (hB.below hd hB.lt).cell 0
 simp at k0
 have HP : Hid (Tr.stepN b (.branch k x l) out = out ++ (if k = 5 then [((b : Int) + Tr.startOf (.branch k x l), (b : Int) + ((Tr.PT.to_ (.branch k x l) : Nat) : Int), 3)] else [])) := by
  show _ = _
  unfold Tr.stepN
  rw [Tr.note_branch]
  simp only [Int.natCast_add]
 have has1 := fun w => as_branch_leaf ⟨q, 0, none⟩ w
 have has2 := fun w => as_branch_gap ⟨q, 0, none⟩ w
 have has3 := fun w => as_branch_branch ⟨q, 0, none⟩ w
 clear e0 hF hB
 generalize Tr.stepN b (.branch k x l) out = res at *
 generalize Tr.startOf (.branch k x l) = so at *
 generalize Tr.PT.to_ (.branch k x l) = y at *
 generalize Tr.PT.from_ (.branch k x l) = z at *
 have a2 : IntKind.i64.wrap ((b : Int) + so) = (b : Int) + so := IntWalk.i64_in _ (by omega)
 have a0 : IntKind.i64.wrap ((b : Int) + (z : Int)) = (b : Int) + (z : Int) := IntWalk.i64_in _ (by omega)
 have a1 : IntKind.i64.wrap ((b : Int) + (y : Int)) = (b : Int) + (y : Int) := IntWalk.i64_in _ (by omega)
 have Hl := Lib.hid hl
 have Hob := Lib.hid hob
 clear n1 n2 n5 n6 ho hn hw hl
 go_enter Tryz.func45, Tryz.ntmps45
 go_wp2_with fail
 refine fcl.mono ?_
 clear fcl
 rintro e w' ⟨rfl, rfl⟩
 go_wp2_with fail
 refine tcl.mono ?_
 clear tcl
 rintro e w2 ⟨rfl, n, rfl⟩
 have hk0 : KeepX [31, 50] w' (w'.drewN n) := (KeepX.refl _ _).drewN n
 have hN := hN.below (below_drewN (Below.refl _ _) n)
 have hd := below_drewN hd n
 have k0 : (w'.drewN n).cell? ⟨q, 0, none⟩ = some (.int .i64 (k : Int)) := k0
 generalize w'.drewN n = w2 at *
 by_cases hk : k = 5
 ·have HP : Hid (res = out ++ [((b : Int) + so, (b : Int) + (y : Int), 3)]) := by show _ = _; rw [HP.out, if_pos hk]
  have e8 : ((k : Int) == 5) = true := by simp; omega
  clear hk
  go_upto_region 12 with fail
  refine wp_region_G 10 (fun w' : World => w'.cell? ⟨ob, 0, none⟩ = some (.slice A out.length c)) (by kernel_rfl) ?_
  have hk0 := hk0.drew
  have hN := hN.below ((Below.refl w2.heap.size w2).drew)
  have hd := hd.drew
  clear k0
  generalize w2.drew = w2 at *
  have n3 := hN.blk.cell 0
  simp at n3
  have hS0 : (fun w' : World => w'.cell? ⟨ob, 0, none⟩ = some (.slice A out.length c)) w2 := n3
  refine wpAnyG_tk 0 hS0 ?_
  simp only [Act.put, List.setIfInBounds_toArray]
  refine wpAnyG_tk 1 hS0 ?_
  simp only [Act.put]
  refine wpAnyG_tk 2 hS0 ?_
  simp only [Act.put]
  refine wpAnyG_tk 3 hS0 ?_
  simp only [Act.put]
  refine wpAnyG_tk 6 hS0 ?_
  simp only [Act.put]
  clear hS0
  have hst := hst w2 hd
  refine wpAnyG_on 4 fun C hC => ?_
  go_simp
  ((with_reducible refine hst.mono ?_))
  clear hst n3
  rintro e w3 ⟨rfl, hb3⟩
  have hN := hN.below hb3
  have hk0 := hk0.trans (KeepX.below (KeepX.refl _ _) hb3 (Nat.le_refl _))
  have hd := hd.trans (hb3.mono hd.size)
  have n3 := hN.blk.cell 0
  simp at n3
  refine hC.out _ _ (fun _ => n3) ?_
  clear hC C
  refine wpAnyG_on 5 fun C hC => ?_
  go_simp
  refine hC.out _ _ (fun _ => n3) ?_
  clear hC C
  refine wpAnyG_on 7 fun C hC => ?_
  go_simp
  refine hC.out _ _ (fun _ => n3) ?_
  clear hC C
  refine wpAnyG_on 8 fun C hC => ?_
  go_simp
  refine hC.out _ _ (fun _ => (cell_alloc _ _ _ _ hN.blk.lt).trans n3) ?_
  clear hC C
  refine wpAnyG_on 9 fun C hC => ?_
  refine step_append_lies _ (by rfl) _ _ _ (by rfl) w0.heap.size 50 i0 _ 3 24 Tryz.underlying31 ji jz0 jz1 jz2 rfl (by omega) (.slice A out.length c) out.length (ntC out) (by rfl) (hN.own.alloc _) ⟨w3.heap.size, 0, none⟩ 1 1 [.int .i64 ((b : Int) + so), .int .i64 ((b : Int) + (y : Int)), .int .i64 3] (by rfl) (by rfl) (nt_lit w3 _ _ _) (by simp [Value.oneCell']) (by omega) (by have := Hl.out; unfold maxLen; omega) (by have := Hl.out; omega) (by have := hd.size; simp; omega) (w3.heap.size + 1) (by simp) ?_
  intro gg cap' w5 hown5 hgrow hat hlt5
  obtain ⟨p0, pf, hI5, hK5⟩ := nt_push hN Hob.out hd hown5 hgrow
  refine hC.out _ _ (fun _ => p0) ?_
  clear hC C
  refine wpAnyG_on 10 fun C hC => ?_
  go_simp
  refine hC.out _ _ (fun h => absurd rfl h) ?_
  clear hC C
  refine wpAnyG_done (by kernel_rfl) ?_ _
  clear hN hown5 hgrow hat hlt5 p0 pf
  go_wp2_with fail
  go_end0
  exact ⟨rfl, by rw [HP.out]; exact hI5, hk0.trans hK5⟩
 ·have HP : Hid (res = out) := by show _ = _; rw [HP.out, if_neg hk, List.append_nil]
  have e8 : ((k : Int) == 5) = false := by simp; omega
  clear hk
  go_wp2_with fail
  go_end0
  exact ⟨rfl, by rw [HP.out]; exact ⟨⟨A, c, hN⟩, Hob.out, hd⟩, hk0⟩
theorem note_any {w0 w : World} {F : Nat → Prop} {ob b : Nat} {p : Tr.PT} {v : Value} {out : List Tr.Nt} (hp : PtF w0 F p v) (hQ : NtQ b p) (hI : NtI w0 ob out w) (hl : out.length ≤ 1000000000) :
  Calls Tryz.prog 45 #[.int .i64 (b : Int), v, .pointer (some ⟨ob, 0, none⟩)] w (NoteE w0 w ob (Tr.stepN b p out)) := by
 cases p with
 | leaf k t x =>
  have hp0 := hp
  obtain ⟨g, rfl, _⟩ := hp0
  exact note_leaf hp hQ hI hl
 | gap t x d =>
  have hp0 := hp
  obtain ⟨g, rfl, _⟩ := hp0
  exact note_gap hp hQ hI hl
 | branch k x l =>
  have hp0 := hp
  obtain ⟨g, rfl, _⟩ := hp0
  exact note_branch hp hQ hI hl
theorem bd_alloc {B b : Nat} {bs : List Value} {w : World} (h : Lib.IsBuilder 99 5 B b bs w) (o : Obj) : Lib.IsBuilder 99 5 B b bs (w.alloc o) := by
 rcases h with h | h
 ·obtain ⟨h1, v, h2, h3, h4⟩ := h
  exact .inl ⟨h1, v, (Below.heap_alloc w o b (lt_heap h2)).trans h2, h3.alloc _, h4⟩
 ·obtain ⟨h1, v, h2, h3, h4⟩ := h
  exact .inr ⟨h1, v, (Below.heap_alloc w o b (lt_heap h2)).trans h2, h3.alloc _, h4⟩
def IsB (B b : Nat) (l : Bs) (w : World) : Prop := Lib.IsBuilder 99 5 B b (Lib.byteCells l) w
section
variable {B b : Nat} {l : Bs} {w : World}
theorem IsB.alloc (h : IsB B b l w) (o : Obj) : IsB B b l (w.alloc o) := bd_alloc h o
theorem IsB.drew (h : IsB B b l w) : IsB B b l w.drew := h
theorem IsB.drewN (h : IsB B b l w) (n : Nat) : IsB B b l (w.drewN n) := h
theorem IsB.lt (h : IsB B b l w) : b < w.heap.size := by
 rcases h with h | h <;> (obtain ⟨_, v, hb, _⟩ := h; exact lt_heap hb)
theorem IsB.keep (h : IsB B b l w) {w' : World} (hk : ∀ k, k < w.heap.size → B ≤ k → w'.heap[k]? = w.heap[k]?) : IsB B b l w' := by
 rcases h with h | h
 ·obtain ⟨h1, v, hb, hown, hne⟩ := h
  exact .inl ⟨h1, v, (hk b (lt_heap hb) h1).trans hb, own_of_block hown fun k hv => hk k (hown.lt k hv).2 (hown.lt k hv).1, hne⟩
 ·obtain ⟨h1, v, hb, hown, hne⟩ := h
  exact .inr ⟨h1, v, (hk b (lt_heap hb) h1).trans hb, own_of_block hown fun k hv => hk k (hown.lt k hv).2 (hown.lt k hv).1, hne⟩
end
theorem store_func (f : Go.Fn) (b c : Array Value) (a : Addr) (m : Mode) (w : World) : (store a (.func f b c) m).run Tryz.prog w = stored Tryz.prog w a (.func f b c) m := run_store Tryz.prog w a _ m rfl
def ntClo (ob : Nat) : Value := .func (.func 45) #[] #[.pointer (some ⟨ob, 0, none⟩)]
def NtK (w0 : World) (ob pb kb q base first last : Nat) (out : List Tr.Nt) (w : World) : Prop := NtI w0 ob out w ∧ Blk w pb 111 #[ntClo ob] ∧ Blk w kb 92 #[.pointer (some ⟨q, 0, none⟩), .int .i64 (base : Int), .int .i64 (first : Int), .int .i64 (last : Int)]
theorem Blk.keepN {w w' : World} {q : Nat} {t : TypeId} {cs : Array Value} {T : List TypeId} (h : Blk w q t cs) (hk : KeepX T w w') (ht : t ∉ T) : Blk w' q t cs := hk q _ h fun u hu e => ht (by injection e with e; rw [e]; exact hu)
set_option maxHeartbeats 4000000 in
set_option maxRecDepth 100000 in
theorem note2_walk {w0 w : World} {F : Nat → Prop} {ob pb kb q base first last : Nat} {p : Tr.PT} {v : Value} {out : List Tr.Nt} (hp : PtF w0 F p v) (hQ : NtQ base p) (hI : NtK w0 ob pb kb q base first last out w) (hl : out.length ≤ 1000000000) :
  Calls Tryz.prog 48 #[v, .pointer (some ⟨pb, 0, none⟩), .pointer (some ⟨kb, 0, none⟩)] w fun e w' => e = .returned (.tuple #[]) ∧ NtK w0 ob pb kb q base first last (Tr.stepN base p out) w' := by
 obtain ⟨hN, hP, hK⟩ := hI
 have hcl := note_any hp hQ hN hl
 obtain ⟨tp, qp, rfl⟩ := hp.form
 unfold NoteE at hcl
 have p0 := hP.cell 0
 have k1 := hK.cell 1
 simp [ntClo] at p0 k1
 generalize Tr.stepN base p out = res at *
 go_enter Tryz.func48, Tryz.ntmps48
 go_wp2_with fail
 refine hcl.mono ?_
 clear hcl p0 k1
 rintro e w1 ⟨rfl, hN1, hk1⟩
 go_wp2_with fail
 go_end0
 exact ⟨rfl, hN1, hP.keepN hk1 (by decide), hK.keepN hk1 (by decide)⟩
theorem note_grow (b : Nat) (p : Tr.PT) (x : List Tr.Nt) : x.length ≤ (Tr.stepN b p x).length := by unfold Tr.stepN; rw [List.length_append]; omega
mutual
theorem walkN_grow (b : Nat) : ∀ (p : Tr.PT) (x : List Tr.Nt), x.length ≤ (Tr.walkP (Tr.stepN b) p x).length
 | .leaf k t a, x => by unfold Tr.walkP; exact note_grow b _ x
 | .gap t a d, x => by unfold Tr.walkP; exact note_grow b _ x
 | .branch k a l, x => by unfold Tr.walkP; exact Nat.le_trans (note_grow b _ x) (walksN_grow b l _)
theorem walksN_grow (b : Nat) : ∀ (l : List Tr.PT) (x : List Tr.Nt), x.length ≤ (Tr.walksP (Tr.stepN b) l x).length
 | [], x => by unfold Tr.walksP; exact Nat.le_refl _
 | p :: l, x => by unfold Tr.walksP; exact Nat.le_trans (walkN_grow b p x) (walksN_grow b l _)
end
theorem kidsN_grow : ∀ (ks : List Tr.Kd) (x : List Tr.Nt), x.length ≤ (Tr.kidsN ks x).length
 | [], _ => Nat.le_refl _
 | k :: ks, x => Nat.le_trans (walkN_grow k.base k.part x) (kidsN_grow ks _)
theorem tailN_grow : ∀ (ts : List Tr.PT) (x : List Tr.Nt), x.length ≤ (Tr.tailN ts x).length
 | [], _ => Nat.le_refl _
 | p :: ts, x => Nat.le_trans (note_grow 0 p x) (tailN_grow ts _)
theorem kidsN_take (ks : List Tr.Kd) (i : Nat) (h : i < ks.length) (x : List Tr.Nt) : Tr.kidsN (ks.take (i + 1)) x = Tr.walkP (Tr.stepN ks[i].base) ks[i].part (Tr.kidsN (ks.take i) x) := by
 rw [List.take_succ_eq_append_getElem h]
 unfold Tr.kidsN
 rw [List.foldl_append]
 rfl
theorem tailN_take (ts : List Tr.PT) (i : Nat) (h : i < ts.length) (x : List Tr.Nt) : Tr.tailN (ts.take (i + 1)) x = Tr.stepN 0 ts[i] (Tr.tailN (ts.take i) x) := by
 rw [List.take_succ_eq_append_getElem h]
 unfold Tr.tailN
 rw [List.foldl_append]
 rfl
theorem kidsN_le (ks : List Tr.Kd) (i : Nat) (x : List Tr.Nt) : (Tr.kidsN (ks.take i) x).length ≤ (Tr.kidsN ks x).length := by
 have h := kidsN_grow (ks.drop i) (Tr.kidsN (ks.take i) x)
 have e : Tr.kidsN (ks.drop i) (Tr.kidsN (ks.take i) x) = Tr.kidsN ks x := by
  unfold Tr.kidsN
  rw [← List.foldl_append, List.take_append_drop]
 rwa [e] at h
theorem tailN_le (ts : List Tr.PT) (i : Nat) (x : List Tr.Nt) : (Tr.tailN (ts.take i) x).length ≤ (Tr.tailN ts x).length := by
 have h := tailN_grow (ts.drop i) (Tr.tailN (ts.take i) x)
 have e : Tr.tailN (ts.drop i) (Tr.tailN (ts.take i) x) = Tr.tailN ts x := by
  unfold Tr.tailN
  rw [← List.foldl_append, List.take_append_drop]
 rwa [e] at h
theorem note2_vis (w0 : World) (F : Nat → Prop) (ob pb kb q base first last : Nat) : VisC 48 #[.pointer (some ⟨pb, 0, none⟩), .pointer (some ⟨kb, 0, none⟩)] w0 F (NtQ base) (fun x : List Tr.Nt => x.length ≤ 1000000000) (Tr.stepN base) (NtK w0 ob pb kb q base first last) where
 run := fun _ _ => by kernel_rfl
 keep := fun x w h => ⟨h.1.2.2.size, fun y _ hl => h.1.2.2.block y hl⟩
 call := fun p v x w hQ hp hI hG => note2_walk hp hQ hI (Nat.le_trans (note_grow base p x) hG)
 sub := fun k a l h => h.sub
 back := fun p x h => Nat.le_trans (note_grow base p x) h
set_option maxHeartbeats 2000000 in
set_option maxRecDepth 100000 in
theorem ntclip_walk (A : Option Addr) (n c : Nat) (w : World) (h : n ≤ c) (hn : A = none → c = 0) :
  Calls Tryz.prog 49 #[.slice A n c] w fun e w' => e = .returned (.slice A n n) ∧ w = w' := by
 cases A with
 | none =>
  have := hn rfl
  subst this
  obtain rfl : n = 0 := by omega
  go_enter Tryz.func49, Tryz.ntmps49
  go_wp2
  go_ret
  exact ⟨rfl, rfl⟩
 | some a =>
  go_enter Tryz.func49, Tryz.ntmps49
  go_wp2
  go_ret
  exact ⟨rfl, rfl⟩
set_option maxHeartbeats 16000000 in
set_option maxRecDepth 100000 in
theorem tnotes_walk {w : World} {F : Nat → Prop} {gt d : Nat} {A : Option Addr} {c : Nat} {T : List Tk} {ks : List Tr.Kd} {ts : List Tr.PT} (h : TreeIs w F gt d A c T ks ts) (hk : ks.length ≤ 100000000) (ht : ts.length ≤ 100000000) (hQk : ∀ k ∈ ks, NtQ k.base k.part) (hQt : ∀ p ∈ ts, NtQ 0 p) (hlen : (Tr.tailN ts (Tr.kidsN ks [])).length ≤ 1000000000) :
  Calls Tryz.prog 15 #[.pointer (some ⟨gt, 0, none⟩)] w fun e w' => ∃ A, e = .returned (.slice A (Tr.tailN ts (Tr.kidsN ks [])).length (Tr.tailN ts (Tr.kidsN ks [])).length) ∧ Rd w' w'.heap.size 3 A (Tr.tailN ts (Tr.kidsN ks [])).length (ntC (Tr.tailN ts (Tr.kidsN ks []))) ∧ Below w.heap.size w w' := by
 obtain ⟨Ak, ck, At, ct, vs, us, hB, hkc, htc, hrk, hks, hrt, hts⟩ := h.ex
 have hlk := Nat.le_trans (tailN_grow ts (Tr.kidsN ks [])) hlen
 have hd1 : Below w.heap.size w (w.alloc (.cells #[.slice none 0 0] 31)) := (Below.refl _ _).alloc (Nat.le_refl _) _
 have ho : Blk (w.alloc (.cells #[.slice none 0 0] 31)) w.heap.size 31 #[.slice none 0 0] := Blk.new _ _ _
 have hz1 : (w.alloc (.cells #[.slice none 0 0] 31)).heap.size = w.heap.size + 1 := by simp
 have hd2 : Below w.heap.size w ((w.alloc (.cells #[.slice none 0 0] 31)).alloc (.cells #[ntClo w.heap.size] 111)) := hd1.alloc hd1.size _
 have hP := Blk.new (w.alloc (.cells #[.slice none 0 0] 31)) 111 #[ntClo w.heap.size]
 rw [hz1] at hP
 have ho2 := ho.alloc (.cells #[ntClo w.heap.size] 111)
 have hI : NtI w w.heap.size [] ((w.alloc (.cells #[.slice none 0 0] 31)).alloc (.cells #[ntClo w.heap.size] 111)) := ⟨⟨none, 0, ho2, World.ownsRow_nil _ _ _ _⟩, Nat.le_refl _, hd2⟩
 obtain ⟨ob, hob⟩ : ∃ x, x = w.heap.size := ⟨_, rfl⟩
 obtain ⟨pb, hpb⟩ : ∃ x, x = ob + 1 := ⟨_, rfl⟩
 rw [← hob, ← hpb] at hP
 rw [← hob] at hI
 clear ho hd1 ho2 hz1 hd2
 unfold ntClo at hI hP
 have hsf := fun (b c : Array Value) a m w => store_func (.func 45) b c a m w
 go_enter Tryz.func15, Tryz.ntmps15
 go_upto_region 3 with fail
 rw [← hob, ← hpb]
 clear hpb hob hsf
 generalize (w.alloc (.cells #[.slice none 0 0] 31)).alloc (.cells #[.func (.func 45) #[] #[.pointer (some ⟨ob, 0, none⟩)]] 111) = w2 at *
 have hB2 := fun w' (hb : Below w.heap.size w w') => hB.below hb hB.lt
 have c2 := (hB2 w2 hI.2.2).cell 2
 simp at c2
 have Hk := Lib.hid hk
 have Ht := Lib.hid ht
 have Hlk := Lib.hid hlk
 have Hlen := Lib.hid hlen
 clear hk ht hlk hlen hkc htc
 go_wp2_with fail
 go_loopg [15] ks.length (fun m v wr => ∃ i : Nat, v = .int .i64 (i : Int) ∧ i ≤ ks.length ∧ ks.length - i ≤ m ∧ NtI w ob (Tr.kidsN (ks.take i) []) wr ∧ Blk wr pb 111 #[ntClo ob])
 case atStart => exact ⟨0, rfl, Nat.zero_le _, Nat.le_refl _, hI, hP⟩
 case round =>
  clear hI hP c2
  obtain ⟨i, rfl, hi, hm, hI, hP⟩ := hrel
  by_cases hlt : i < ks.length
  ·have ii0 : (0 : Int) ≤ (i : Int) := by omega
   have ii1 : (i : Int) < (ks.length : Int) := by omega
   obtain ⟨qp, v0, v1, v2, v3, hpv⟩ := hks.at_ hlt
   obtain ⟨br, o, rfl, _, hbl, hc⟩ := hrk (by have := KdsF.len hks; omega)
   have e0 := hc _ _ v0
   have e1 := hc _ _ v1
   have e2 := hc _ _ v2
   have e3 := hc _ _ v3
   rw [← Nat.add_assoc] at e1 e2 e3
   have hbelow := hI.2.2
   have q0 := (hbelow.cell (p := ⟨br, o + i * 4, none⟩) hbl).trans e0
   have q1 := (hbelow.cell (p := ⟨br, o + i * 4 + 1, none⟩) hbl).trans e1
   have q2 := (hbelow.cell (p := ⟨br, o + i * 4 + 2, none⟩) hbl).trans e2
   have q3 := (hbelow.cell (p := ⟨br, o + i * 4 + 3, none⟩) hbl).trans e3
   have hQ := hQk ks[i] (List.getElem_mem hlt)
   have HT := Lib.hid (kidsN_take ks i hlt [])
   have Hle := Lib.hid (Nat.le_trans (kidsN_le ks (i + 1) []) Hlk.out)
   rw [HT.out] at Hle
   generalize ks[i].part = p at *
   generalize ks[i].base = kb0 at *
   generalize ks[i].first = kf at *
   generalize ks[i].last = kl at *
   generalize Tr.kidsN (ks.take i) [] = out at *
   have Hlt := Lib.hid hlt
   have Hm := Lib.hid hm
   clear v0 v1 v2 v3 hc e0 e1 e2 e3 hbl hbelow hlt hm hi
   have hd : Below wr.heap.size wr (wr.alloc (.cells #[.pointer (some ⟨qp, 0, none⟩), .int .i64 (kb0 : Int), .int .i64 (kf : Int), .int .i64 (kl : Int)] 92)) := (Below.refl _ _).alloc (Nat.le_refl _) _
   have hKb : Blk (wr.alloc (.cells #[.pointer (some ⟨qp, 0, none⟩), .int .i64 (kb0 : Int), .int .i64 (kf : Int), .int .i64 (kl : Int)] 92)) wr.heap.size 92 #[.pointer (some ⟨qp, 0, none⟩), .int .i64 (kb0 : Int), .int .i64 (kf : Int), .int .i64 (kl : Int)] := Blk.new _ _ _
   obtain ⟨⟨A1, c1, hN⟩, hob, hdd⟩ := hI
   have hN := hN.below hd
   have hP := hP.below hd hP.lt
   have hdd := hdd.trans (hd.mono hdd.size)
   obtain ⟨kb, hkb⟩ : ∃ kb, kb = wr.heap.size := ⟨_, rfl⟩
   rw [← hkb] at hKb
   go_upto_region 6 with fail
   rw [← hkb]
   clear hkb q0 q1 q2 q3 hd
   generalize (wr.alloc (.cells #[.pointer (some ⟨qp, 0, none⟩), .int .i64 (kb0 : Int), .int .i64 (kf : Int), .int .i64 (kl : Int)] 92)) = w3 at *
   have hK3 : NtK w ob pb kb qp kb0 kf kl out w3 := ⟨⟨⟨A1, c1, hN⟩, hob, hdd⟩, hP, hKb⟩
   have hcl := walk_all (note2_vis w F ob pb kb qp kb0 kf kl) p _ out w3 hQ hpv hK3 Hle.out
   have kq := hKb.cell 0
   simp at kq
   rw [← HT.out] at hcl
   clear hpv hK3 hN hdd hQ hP hKb
   have Hob := Lib.hid hob
   clear hob
   go_wp2_with fail
   refine hcl.mono ?_
   clear hcl kq
   rintro e w4 ⟨rfl, hI4, hP4, _⟩
   have c1 : IntKind.i64.wrap ((i : Int) + 1) = (i : Int) + 1 := IntWalk.i64_in _ (by have := Hlt.out; have := Hk.out; omega)
   go_wp2_with fail
   go_roundg (ks.length - (i + 1))
   case rel => exact ⟨i + 1, by go_num, by have := Hlt.out; omega, Nat.le_refl _, hI4, hP4⟩
   case measure => have := Hlt.out; have := Hm.out; omega
  ·obtain rfl : i = ks.length := by omega
   have i1 : ¬ (ks.length : Int) < (ks.length : Int) := by omega
   have i2 : decide (ks.length < ks.length) = false := by simp
   rw [List.take_length] at hI
   have c3 := (hB2 wr hI.2.2).cell 3
   simp at c3
   generalize hkn : Tr.kidsN ks [] = kn at *
   have Hkn := Lib.hid hkn
   clear hkn
   clear hlt hi hm
   go_wp2_with fail
   go_loopg [30] ts.length (fun m v wr => ∃ j : Nat, v = .int .i64 (j : Int) ∧ j ≤ ts.length ∧ ts.length - j ≤ m ∧ NtI w ob (Tr.tailN (ts.take j) kn) wr ∧ Blk wr pb 111 #[ntClo ob])
   case atStart => exact ⟨0, rfl, Nat.zero_le _, Nat.le_refl _, hI, hP⟩
   case round =>
    clear hI hP c3
    obtain ⟨j, rfl, hj, hm, hI, hP⟩ := hrel
    by_cases hlt : j < ts.length
    ·have ii0 : (0 : Int) ≤ (j : Int) := by omega
     have ii1 : (j : Int) < (ts.length : Int) := by omega
     obtain ⟨v, hv, hpv⟩ := hts.at_ hlt
     obtain ⟨br, o, rfl, hcell⟩ := hrt.at_ hv
     have hbl := World.block_lt_of_cell? w ⟨br, o + j, none⟩ hcell
     have q0 := (hI.2.2.cell (p := ⟨br, o + j, none⟩) hbl).trans hcell
     have HT := Lib.hid (tailN_take ts j hlt kn)
     have hle := Nat.le_trans (tailN_le ts j kn) Hlen.out
     have hcl := note_any hpv (hQt ts[j] (List.getElem_mem hlt)) hI hle
     unfold NoteE at hcl
     rw [← HT.out] at hcl
     clear HT
     obtain ⟨tp, qp, rfl⟩ := hpv.form
     have p0 := hP.cell 0
     simp [ntClo] at p0
     have Hlt := Lib.hid hlt
     have Hm := Lib.hid hm
     clear hpv hv hcell hbl hlt hm hj hle hI
     go_wp2_with fail
     refine hcl.mono ?_
     clear hcl q0 p0
     rintro e w4 ⟨rfl, hI4, hk4⟩
     have c1 : IntKind.i64.wrap ((j : Int) + 1) = (j : Int) + 1 := IntWalk.i64_in _ (by have := Hlt.out; have := Ht.out; omega)
     have hP4 := hP.keepN hk4 (by decide)
     go_wp2_with fail
     go_roundg (ts.length - (j + 1))
     case rel => exact ⟨j + 1, by go_num, by have := Hlt.out; omega, Nat.le_refl _, hI4, hP4⟩
     case measure => have := Hlt.out; have := Hm.out; omega
    ·obtain rfl : j = ts.length := by omega
     have j1 : ¬ (ts.length : Int) < (ts.length : Int) := by omega
     have j2 : decide (ts.length < ts.length) = false := by simp
     rw [List.take_length] at hI
     generalize hres : Tr.tailN ts kn = res at *
     have Hres := Lib.hid hres
     clear hres
     obtain ⟨⟨Av, cv, hN⟩, hob, hdd⟩ := hI
     obtain ⟨Av', cv', he, hle, hnone⟩ := own_cap hN.own
     injection he with e1 _ e3
     subst e1 e3
     have hcp := ntclip_walk Av res.length cv wr hle hnone
     have n0 := hN.blk.cell 0
     simp at n0
     have hrd := Rd.of_own hN.own
     clear hlt hj hm hle hnone hN hP
     go_wp2_with fail
     refine hcp.mono ?_
     clear hcp n0
     rintro e w4 ⟨rfl, rfl⟩
     go_wp2_with fail
     go_ret
     rw [Hkn.out, Hres.out]
     exact ⟨Av, rfl, hrd, hdd⟩
theorem NpsF.pl : ∀ {w : World} {F : Nat → Prop} {l : List Tr.PT} {a : Nat} {fps : List Nat} {vs : List Value} {i : Nat}, NpsF w F l a fps vs → ∀ (h : i < l.length), ∃ q a' fp, vs[i]? = some (.pointer (some ⟨q, 0, none⟩)) ∧ NpF w F l[i] a' fp (.pointer (some ⟨q, 0, none⟩)) ∧ Tr.rnotessP (l.take (i + 1)) a = Tr.rnotessP (l.take i) a ++ Tr.rnotesP l[i] a' ∧ a' = a + Tr.widesP (l.take i)
 | _, _, [], _, _, _, _, _, h => absurd h (by simp)
 | w, F, p :: l, a, fps, vs, 0, hp, _ => by
  obtain ⟨fp, fps', v, vs', rfl, rfl, h, _⟩ := hp
  obtain ⟨q, rfl⟩ := h.form
  exact ⟨q, a, fp, rfl, h, by simp [Tr.rnotessP], by simp [Tr.widesP]⟩
 | w, F, p :: l, a, fps, vs, i + 1, hp, h => by
  obtain ⟨fp, fps', v, vs', rfl, rfl, _, hl⟩ := hp
  obtain ⟨q, a', fp', h1, h2, h3, h4⟩ := NpsF.pl (i := i) hl (by simpa using h)
  refine ⟨q, a', fp', by simpa using h1, by simpa using h2, ?_, ?_⟩
  ·simp only [List.take_succ_cons, Tr.rnotessP, List.getElem_cons_succ, List.append_assoc] at h3 ⊢
   rw [h3]
  ·rw [h4, Tr.put_end]
   simp only [List.take_succ_cons, Tr.widesP]
   omega
end Go.Proofs.YtalklmeejdmifaaGreatDoor
