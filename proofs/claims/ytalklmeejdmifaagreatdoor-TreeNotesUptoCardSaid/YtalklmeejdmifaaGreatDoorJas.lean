/-
  JOINED of the texts YB YE
-/
import Derived.Test.YtalklmeejdmifaaGreatDoorJar
import Derived.Lib.RuneBytes
import Derived.Lib.Strings
/-
  TREES, plainly: the places of what is read are those that it has in the text; the notes are the document's.
-/
namespace Go.Proofs.YtalklmeejdmifaaGreatDoor.Tr

/-- parts that were read from token i on: they are the text and stand where they say -/
structure Okd (s : List UInt8) (T : List (Nat × Nat × Nat)) (b i : Nat) (st : St) : Prop where
  up : i ≤ st.2
  le : st.2 ≤ T.length
  text : textsOf st.1 = sl s T i st.2
  ok : oksP b st.1 (absP s T i)
  base : b ≤ absP s T i
def OkF (s : List UInt8) (T : List (Nat × Nat × Nat)) (b : Nat) (f : Nat → St) : Prop := ∀ i, i ≤ T.length → b ≤ absP s T i → Okd s T b i (f i)
def OkO (s : List UInt8) (T : List (Nat × Nat × Nat)) (b : Nat) (f : Nat → PT × Nat) : Prop := OkF s T b fun i => oneP (f i)
section
variable {s : List UInt8} {T : List (Nat × Nat × Nat)} {b : Nat}
theorem wides_sl (hS : Side s T) {i : Nat} {st : St} (h : Okd s T b i st) : absP s T i + widesP st.1 = absP s T st.2 := by
  have h1 := wides_text st.1
  rw [h.text, sl_len hS.good h.up] at h1
  have := hS.good.up i st.2 h.up
  omega
theorem Okd.thn (hS : Side s T) {i : Nat} {st : St} {f : Nat → St} (h : Okd s T b i st) (hf : OkF s T b f) : Okd s T b i (thn st f) := by
  have h1 := hf st.2 h.le (Nat.le_trans h.base (hS.good.up i st.2 h.up))
  refine ⟨Nat.le_trans h.up h1.up, h1.le, ?_, ?_, h.base⟩
  · unfold Tr.thn
    dsimp only
    rw [texts_app, h.text, h1.text]
    exact sl_add hS.good h.up h1.up
  · unfold Tr.thn
    exact oks_app _ _ _ h.ok (by rw [wides_sl hS h]; exact h1.ok)
theorem Okd.ite {i : Nat} {st u : St} {p : Bool} (h : Okd s T b i st) (hu : Okd s T b i u) : Okd s T b i (if p then st else u) := by
  split
  · exact h
  · exact hu
theorem Okd.nil {i : Nat} (hi : i ≤ T.length) (hb : b ≤ absP s T i) : Okd s T b i ([], i) := ⟨Nat.le_refl _, hi, by rw [sl_self]; rfl, trivial, hb⟩
/-- a branch of what was read -/
theorem Okd.br {i kind : Nat} {st : St} (h : Okd s T b i st) (hk : kind ≠ 5) : Okd s T b i (oneP (brP s T b kind i st)) := by
  refine ⟨h.up, h.le, ?_, ⟨⟨?_, h.ok, fun e => absurd e hk⟩, trivial⟩, h.base⟩
  · simp only [oneP, brP, textsOf, textOf, List.append_nil, h.text]
  · have := h.base
    unfold placeP
    omega
theorem Okd.around {i j kind : Nat} {p : PT} {l : List PT} (h : Okd s T b i (p :: l, j)) (hk : kind ≠ 5) : Okd s T b i ([.branch kind p.from_ (p :: l)], j) := by
  refine ⟨h.up, h.le, ?_, ⟨⟨ok_from h.ok.1, h.ok, fun e => absurd e hk⟩, trivial⟩, h.base⟩
  have := h.text
  simp only [textsOf, textOf, List.append_nil] at this ⊢
  exact this
variable (b) (hS : Side s T)
include hS
theorem leaves_ok : ∀ (n i : Nat), i + n ≤ T.length → b ≤ absP s T i → oksP b (((T.drop i).take n).map (leafP s b)) (absP s T i)
  | 0, i, _, _ => by rw [List.take_zero]; trivial
  | n + 1, i, h, hb => by
    have hi : i < T.length := by omega
    have h1 := hS.good.up i (i + 1) (Nat.le_succ i)
    have ih := leaves_ok n (i + 1) (by omega) (Nat.le_trans hb h1)
    rw [List.drop_eq_getElem_cons hi, List.take_succ_cons, List.map_cons]
    have h2 := abs_at s T i hi
    refine ⟨?_, ?_⟩
    · show b + (T[i].2.1 - b) = absP s T i
      omega
    · have h3 : (subT s T[i]).length = absP s T (i + 1) - absP s T i := by rw [sl_one hS hi, sl_len hS.good (Nat.le_succ i)]
      have h4 := put_end (leafP s b T[i]) (absP s T i)
      have h5 : wideP (leafP s b T[i]) = (subT s T[i]).length := rfl
      rw [h4, h5, h3, show absP s T i + (absP s T (i + 1) - absP s T i) = absP s T (i + 1) by omega]
      exact ih
theorem take_okd : OkF s T b (takeP s T b) := fun i hi hb => by
  have h1 := to_ge T i hi
  have h2 := to_le T i
  have h := (leaves_fine b hS (toP T i - i) i (by omega)).1
  rw [show i + (toP T i - i) = toP T i by omega] at h
  exact ⟨h1, h2, h, leaves_ok b hS (toP T i - i) i (by omega) hb, hb⟩
omit hS in
theorem miss_okd (w : List UInt8) : OkF s T b (missP s T b w) := fun i hi hb => by
  refine ⟨Nat.le_refl _, hi, by unfold missP; rw [sl_self]; rfl, ⟨?_, trivial⟩, hb⟩
  show b + placeP s T b i = _
  unfold placeP
  omega
theorem want_okd (w : List UInt8) : OkF s T b (wantP s T b w) := fun i hi hb => by
  unfold wantP
  exact (take_okd b hS i hi hb).ite (miss_okd b w i hi hb)
theorem name_okd : OkF s T b (nameP s T b) := fun i hi hb => by
  unfold nameP
  split
  · exact take_okd b hS i hi hb
  · exact miss_okd b sName i hi hb
theorem many_okd {one : Nat → St} (ho : OkF s T b one) {i : Nat} : ∀ (f : Nat) (st : St), Okd s T b i st → Okd s T b i (manyP s T b one f st)
  | 0, st, h => h
  | f + 1, st, h => by
    rw [many_succ]
    split
    · exact many_okd ho f _ ((h.thn hS (take_okd b hS)).thn hS ho)
    · exact h
theorem params_okd : OkO s T b (paramsP s T b) := fun i hi hb => by
  have h1 := want_okd b hS [40] i hi hb
  have h2 := many_okd b hS (name_okd b hS) (T.length + 1) _ (h1.thn hS (name_okd b hS))
  exact ((h1.ite (p := isP s T [[41]] (wantP s T b [40] i).2) h2).thn hS (want_okd b hS [41])).br (by omega)
theorem list_okd {e : Nat → St} (he : OkF s T b e) (kind : Nat) (hk : kind ≠ 5) (shut : List UInt8) : OkO s T b (listP s T b e kind shut) := fun i hi hb => by
  have h1 := take_okd b hS i hi hb
  have h2 := many_okd b hS he (T.length + 1) _ (h1.thn hS he)
  exact ((h1.ite (p := isP s T [shut] (takeP s T b i).2) h2).thn hS (want_okd b hS shut)).br hk
omit hS in
theorem leafK_ne (k : Nat) (t : List UInt8) : leafK k t ≠ 5 := by
  unfold leafK
  repeat' split
  all_goals omega
theorem part_okd {e : Nat → St} (he : OkF s T b e) : OkO s T b (partP s T b e) := fun i hi hb => by
  show Okd s T b i (oneP (partP s T b e i))
  unfold partP
  split
  · exact (take_okd b hS i hi hb).br (leafK_ne _ _)
  split
  · exact (((take_okd b hS i hi hb).thn hS he).thn hS (want_okd b hS [41])).br (by omega)
  split
  · exact list_okd b hS he 13 (by omega) [93] i hi hb
  · exact miss_okd b sExpr i hi hb
theorem calls_okd {e : Nat → St} (he : OkF s T b e) {i : Nat} : ∀ (f : Nat) (r : PT × Nat), Okd s T b i (oneP r) → Okd s T b i (oneP (callsP s T b e f r))
  | 0, r, h => h
  | f + 1, r, h => by
    rw [calls_succ]
    split
    · refine calls_okd he f _ ?_
      have h2 := h.thn hS (list_okd b hS he 12 (by omega) [41])
      exact Okd.around (kind := 11) h2 (by omega)
    · exact h
theorem call_okd {e : Nat → St} (he : OkF s T b e) : OkO s T b (callP s T b e) := fun i hi hb => calls_okd b hS he _ _ (part_okd b hS he i hi hb)
theorem bin_okd {one : Nat → PT × Nat} (ho : OkO s T b one) {i : Nat} {r : PT × Nat} (h : Okd s T b i (oneP r)) : Okd s T b i (oneP (binP s T b one r)) := by
  have h1 := (h.thn hS (take_okd b hS)).thn hS ho
  exact Okd.around (kind := 10) h1 (by omega)
theorem rows_okd {one : Nat → PT × Nat} (ho : OkO s T b one) (signs : List (List UInt8)) {i : Nat} : ∀ (f : Nat) (r : PT × Nat), Okd s T b i (oneP r) → Okd s T b i (oneP (rowsP s T b one signs f r))
  | 0, r, h => h
  | f + 1, r, h => by
    rw [rows_succ]
    split
    · exact rows_okd ho signs f _ (bin_okd b hS ho h)
    · exact h
theorem row_okd {one : Nat → PT × Nat} (ho : OkO s T b one) (signs : List (List UInt8)) : OkO s T b (rowP s T b one signs) := fun i hi hb => rows_okd b hS ho signs _ _ (ho i hi hb)
theorem comp_okd {e : Nat → St} (he : OkF s T b e) : OkO s T b (compP s T b e) := fun i hi hb => by
  have hs : OkO s T b (sumP s T b e) := row_okd b hS (row_okd b hS (call_okd b hS he) _) _
  show Okd s T b i (oneP (compP s T b e i))
  unfold compP
  split
  · exact bin_okd b hS hs (hs i hi hb)
  · exact hs i hi hb
theorem expr_okd : ∀ f, OkO s T b (exprP s T b f)
  | 0 => fun i hi hb => by
    have h := miss_okd (s := s) (T := T) b sExpr i hi hb
    exact ⟨h.up, h.le, h.text, h.ok, hb⟩
  | f + 1 => fun i hi hb => by
    have he := expr_okd f
    have ht := take_okd b hS i hi hb
    show Okd s T b i (oneP (exprP s T b (f + 1) i))
    rw [exprP]
    split
    · exact (((((ht.thn hS (name_okd b hS)).thn hS (want_okd b hS [61])).thn hS he).thn hS (want_okd b hS sIn)).thn hS he).br (by omega)
    split
    · exact (((((ht.thn hS he).thn hS (want_okd b hS sThen)).thn hS he).thn hS (want_okd b hS sElse)).thn hS he).br (by omega)
    split
    · exact (((ht.thn hS (params_okd b hS)).thn hS (want_okd b hS [61, 62])).thn hS he).br (by omega)
    · exact comp_okd b hS he i hi hb
theorem pub_okd : OkF s T b (pubP s T b) := fun i hi hb => by
  unfold pubP
  exact (take_okd b hS i hi hb).ite (Okd.nil hi hb)
theorem use_okd {i : Nat} {st : St} (h : Okd s T b i st) : Okd s T b i (useP s T b st) := by
  unfold useP
  have h4 := (((h.thn hS (want_okd b hS sUse)).thn hS (name_okd b hS)).thn hS (want_okd b hS [46])).thn hS (name_okd b hS)
  have h5 := (h4.thn hS (take_okd b hS)).thn hS (name_okd b hS)
  exact (h5.ite h4).thn hS (want_okd b hS [59])
theorem def_okd {i : Nat} {st : St} (h : Okd s T b i st) : Okd s T b i (defP s T b st) := by
  unfold defP
  have h4 := (h.thn hS (want_okd b hS sDef)).thn hS (name_okd b hS)
  have h5 := h4.thn hS (params_okd b hS)
  exact (((h5.ite h4).thn hS (want_okd b hS [61])).thn hS (expr_okd b hS 65)).thn hS (want_okd b hS [59])
theorem item_okd : OkO s T b (itemP s T b) := fun i hi hb => by
  have h0 := pub_okd b hS i hi hb
  show Okd s T b i (oneP (itemP s T b i))
  unfold itemP
  split
  · exact (use_okd b hS h0).br (by omega)
  · exact (def_okd b hS h0).br (by omega)
/-- the last part is a token that is no space and no remark -/
def EndT (st : St) : Prop := ∃ l k t x, st.1 = l ++ [.leaf k t x] ∧ ¬ (k = 1 ∨ k = 2)
omit hS in
theorem next_not (i : Nat) (hn : nextP T i < T.length) : blankT T[nextP T i] = false := by
  unfold nextP at hn ⊢
  have h1 : (T.drop i).takeWhile blankT ++ (T.drop i).dropWhile blankT = T.drop i := List.takeWhile_append_dropWhile
  generalize hk : ((T.drop i).takeWhile blankT).length = k at *
  have h2 : (T.drop i)[k]? = some T[i + k] := by rw [List.getElem?_drop, List.getElem?_eq_getElem hn]
  rw [← h1, List.getElem?_append_right (by omega), hk, Nat.sub_self] at h2
  cases hd : (T.drop i).dropWhile blankT with
  | nil => rw [hd] at h2; simp at h2
  | cons x l =>
    rw [hd] at h2
    simp only [List.getElem?_cons_zero, Option.some.injEq] at h2
    have := List.head_dropWhile_not blankT (l := T.drop i) (by rw [hd]; simp)
    rw [← h2]
    simpa [hd] using this
omit hS in
theorem take_end (i : Nat) (hn : nextP T i < T.length) : EndT (takeP s T b i) := by
  have h0 := next_ge T i
  have hb := next_not (T := T) i hn
  have e : toP T i - i = (nextP T i - i) + 1 := by unfold toP; omega
  have hl : nextP T i - i < (T.drop i).length := by rw [List.length_drop]; omega
  have hg : (T.drop i)[nextP T i - i] = T[nextP T i] := by
    rw [List.getElem_drop]
    congr 1
    omega
  unfold EndT takeP
  dsimp only
  rw [e, List.take_succ_eq_append_getElem hl, List.map_append, hg]
  refine ⟨_, _, _, _, rfl, ?_⟩
  unfold blankT at hb
  simpa using hb
omit hS in
theorem junk_br {i : Nat} {st : St} (h : Okd s T b i st) (he : EndT st) : Okd s T b i (oneP (brP s T b 5 i st)) := by
  refine ⟨h.up, h.le, ?_, ⟨⟨?_, h.ok, fun _ => ?_⟩, trivial⟩, h.base⟩
  · simp only [oneP, brP, textsOf, textOf, List.append_nil, h.text]
  · have := h.base
    unfold placeP
    omega
  · obtain ⟨l, k, t, x, e, hk⟩ := he
    have e1 : putP (.branch 5 (placeP s T b i) st.1) (absP s T i) = putsP st.1 ⟨absP s T i, -1, -1, false⟩ := rfl
    rw [e1, e, puts_app]
    have h1 := puts_end l ⟨absP s T i, -1, -1, false⟩
    have h2 := puts_in l ⟨absP s T i, -1, -1, false⟩ ((putsP l ⟨absP s T i, -1, -1, false⟩).end_ : Int) (by rw [h1]; exact Int.le_refl _) (by unfold Pl.In; dsimp only; omega)
    generalize putsP l ⟨absP s T i, -1, -1, false⟩ = q at *
    obtain ⟨_, _, _, h3⟩ := h2
    have e2 : putP (.leaf k t x) q.end_ = ⟨q.end_ + t.length, (q.end_ : Int), ((q.end_ + t.length : Nat) : Int), false⟩ := by unfold putP; rw [if_neg hk]
    rw [e2]
    unfold joinP
    dsimp only
    constructor
    · split <;> omega
    · split <;> omega
theorem junks_okd {i : Nat} : ∀ (f : Nat) (last : Bool) (st : St), Okd s T b i st → Okd s T b i (junksP s T b f last st) ∧ (EndT st → EndT (junksP s T b f last st))
  | 0, _, st, h => ⟨h, id⟩
  | f + 1, last, st, h => by
    rw [junks_succ]
    split
    · rename_i hi
      have h1 := junks_okd f (isP s T [[59]] st.2) _ (h.thn hS (take_okd b hS))
      refine ⟨h1.1, fun _ => h1.2 ?_⟩
      obtain ⟨l, k, t, x, e, hk⟩ := take_end (s := s) b st.2 hi.2.1
      exact ⟨st.1 ++ l, k, t, x, by unfold Tr.thn; dsimp only; rw [e, List.append_assoc], hk⟩
    · exact ⟨h, id⟩
theorem junk_okd (i : Nat) (hi : i ≤ T.length) (hb : b ≤ absP s T i) (hn : nextP T i < T.length) (hs : startP s T i = false) : Okd s T b i (oneP (junkP s T b i)) := by
  unfold junkP
  have h1 := junks_succ s T b T.length false ([], i)
  rw [if_pos ⟨rfl, hn, hs⟩] at h1
  rw [h1]
  have h2 := junks_okd b hS T.length (isP s T [[59]] i) _ ((Okd.nil hi hb).thn hS (take_okd b hS))
  refine junk_br b h2.1 (h2.2 ?_)
  obtain ⟨l, k, t, x, e, hk⟩ := take_end (s := s) b i hn
  exact ⟨l, k, t, x, by unfold Tr.thn; dsimp only; rw [e, List.nil_append], hk⟩
theorem kid_okd (i : Nat) (hi : i ≤ T.length) (hn : nextP T i < T.length) : okP (absP s T i) (kidP s T i).1 (absP s T i) := by
  unfold kidP
  split
  · exact (item_okd (absP s T i) hS i hi (Nat.le_refl _)).ok.1
  · rename_i h
    exact (junk_okd (absP s T i) hS i hi (Nat.le_refl _) hn (by simpa using h)).ok.1
/-- the notes of the kids, and of the leaves behind them -/
def kidsN (ks : List Kd) (out : List Nt) : List Nt := ks.foldl (fun o k => walkP (stepN k.base) k.part o) out
def tailN (ts : List PT) (out : List Nt) : List Nt := ts.foldl (fun o p => stepN 0 p o) out
theorem kids_notes : ∀ (f i : Nat) (out : List Nt), i ≤ T.length → kidsN (kidsP s T f i).1 out = out ++ rnotessP ((kidsP s T f i).1.map (·.part)) (absP s T i)
  | 0, i, out, _ => by unfold kidsP kidsN; simp [rnotessP]
  | f + 1, i, out, hi => by
    rw [kids_succ]
    split
    · rename_i hn
      have h1 := kid_okd hS i hi hn
      obtain ⟨a1, a2, a3, a4⟩ := oneP_text ((kid_fine hS).at_ hi)
      have ih := kids_notes f (kidP s T i).2 (out ++ rnotesP (kidP s T i).1 (absP s T i)) a4
      have e : kidsN (kdP s T i :: (kidsP s T f (kidP s T i).2).1) out = kidsN (kidsP s T f (kidP s T i).2).1 (walkP (stepN (absP s T i)) (kidP s T i).1 out) := rfl
      have e1 : (kdP s T i).part = (kidP s T i).1 := rfl
      have h2 := put_end (kidP s T i).1 (absP s T i)
      have h3 := wide_text (kidP s T i).1
      rw [a1, sl_len hS.good a3] at h3
      have h4 := hS.good.up i _ a3
      rw [e, walk_notes _ _ _ h1, ih, List.map_cons, e1]
      simp only [rnotessP]
      rw [h2, h3, show absP s T i + (absP s T (kidP s T i).2 - absP s T i) = absP s T (kidP s T i).2 by omega, List.append_assoc]
    · unfold kidsN; simp [rnotessP]
omit hS in
theorem tail_walks : ∀ (ts : List PT) (out : List Nt), (∀ p ∈ ts, ∃ k t a, p = .leaf k t a) → tailN ts out = walksP (stepN 0) ts out
  | [], out, _ => by unfold walksP; rfl
  | p :: l, out, h => by
    obtain ⟨k, t, a, rfl⟩ := h p (by simp)
    have ih := tail_walks l (stepN 0 (.leaf k t a) out) fun q hq => h q (List.mem_cons_of_mem _ hq)
    unfold walksP walkP
    exact ih
theorem tail_notes (i : Nat) (hi : i ≤ T.length) (out : List Nt) : tailN (tailP s T i) out = out ++ rnotessP (tailP s T i) (absP s T i) := by
  rw [tail_walks]
  · refine walks_notes _ _ _ ?_
    have h := leaves_ok 0 hS (T.length - i) i (by omega) (Nat.zero_le _)
    have e : (T.drop i).take (T.length - i) = T.drop i := List.take_of_length_le (by rw [List.length_drop]; exact Nat.le_refl _)
    rwa [e] at h
  · intro p hp
    unfold tailP at hp
    obtain ⟨t, _, rfl⟩ := List.mem_map.1 hp
    exact ⟨_, _, _, rfl⟩
/-- the notes of a text -/
theorem all_notes : tailN (tailP s T (kidsP s T (T.length + 1) 0).2) (kidsN (kidsP s T (T.length + 1) 0).1 []) = rnotesP (.branch 2 0 (allP s T)) 0 := by
  obtain ⟨c1, c2, c3, c4, c5⟩ := kids_fine hS (T.length + 1) 0 (Nat.zero_le _)
  have h1 := kids_notes hS (T.length + 1) 0 [] (Nat.zero_le _)
  have h2 := tail_notes hS (kidsP s T (T.length + 1) 0).2 c4 (kidsN (kidsP s T (T.length + 1) 0).1 [])
  have h3 := wides_text ((kidsP s T (T.length + 1) 0).1.map (·.part))
  rw [c1, sl_len hS.good c3, hS.first] at h3
  rw [h2, h1, hS.first]
  unfold rnotesP allP
  rw [rnotess_app, h3, if_neg (by omega)]
  simp
end
end Go.Proofs.YtalklmeejdmifaaGreatDoor.Tr
/-
  TREES, plainly: how many parts there are in what is read; how many notes.
-/
namespace Go.Proofs.YtalklmeejdmifaaGreatDoor.Tr

mutual
/-- how many parts -/
def cntP : PT → Nat
  | .leaf _ _ _ => 1
  | .gap _ _ _ => 1
  | .branch _ _ l => 1 + cntsP l
def cntsP : List PT → Nat
  | [] => 0
  | p :: l => cntP p + cntsP l
end
theorem cnts_app : ∀ (l m : List PT), cntsP (l ++ m) = cntsP l + cntsP m
  | [], m => by simp only [List.nil_append, cntsP, Nat.zero_add]
  | p :: l, m => by simp only [List.cons_append, cntsP, cnts_app l m]; omega
/-- parts that were read from token i on: so many more than twenty a token -/
structure Ct (T : List (Nat × Nat × Nat)) (i : Nat) (c : Int) (st : St) : Prop where
  up : i ≤ st.2
  le : st.2 ≤ T.length
  cnt : (cntsP st.1 : Int) ≤ 20 * ((st.2 : Int) - i) + c
def CtF (T : List (Nat × Nat × Nat)) (f : Nat → St) (c : Int) : Prop := ∀ i, i ≤ T.length → Ct T i c (f i)
def CtO (T : List (Nat × Nat × Nat)) (f : Nat → PT × Nat) (c : Int) : Prop := CtF T (fun i => oneP (f i)) c
section
variable {T : List (Nat × Nat × Nat)} {i : Nat} {c d : Int} {st u : St}
theorem Ct.thn {f : Nat → St} (h : Ct T i c st) (hf : Ct T st.2 d (f st.2)) : Ct T i (c + d) (thn st f) := by
  refine ⟨Nat.le_trans h.up hf.up, hf.le, ?_⟩
  unfold Tr.thn
  dsimp only
  rw [cnts_app]
  have := h.cnt
  have := hf.cnt
  omega
theorem Ct.thnF {f : Nat → St} (h : Ct T i c st) (hf : CtF T f d) : Ct T i (c + d) (Tr.thn st f) := h.thn (hf st.2 h.le)
theorem Ct.mono (h : Ct T i c st) (hd : c ≤ d) : Ct T i d st := ⟨h.up, h.le, by have := h.cnt; omega⟩
theorem Ct.ite {p : Bool} (h : Ct T i c st) (hu : Ct T i c u) : Ct T i c (if p then st else u) := by
  split
  · exact h
  · exact hu
theorem Ct.nil (hi : i ≤ T.length) : Ct T i 0 ([], i) := ⟨Nat.le_refl _, hi, by simp [cntsP]⟩
theorem Ct.br {kind a : Nat} (h : Ct T i c st) : Ct T i (c + 1) ([.branch kind a st.1], st.2) := by
  refine ⟨h.up, h.le, ?_⟩
  simp only [cntsP, cntP]
  have := h.cnt
  omega
end
section
variable (s : List UInt8) (T : List (Nat × Nat × Nat)) (b : Nat)
theorem cnts_leaves : ∀ l : List (Nat × Nat × Nat), cntsP (l.map (leafP s b)) = l.length
  | [] => rfl
  | t :: l => by
    simp only [List.map_cons, cntsP, List.length_cons, cnts_leaves l]
    have : cntP (leafP s b t) = 1 := rfl
    omega
theorem take_ct : CtF T (takeP s T b) 0 := fun i hi => by
  have h1 := to_ge T i hi
  have h2 := to_le T i
  refine ⟨h1, h2, ?_⟩
  unfold takeP
  dsimp only
  rw [cnts_leaves, List.length_take, List.length_drop]
  omega
theorem take_ct1 (i : Nat) (hi : i ≤ T.length) (hn : nextP T i < T.length) : Ct T i (-19) (takeP s T b i) := by
  have h1 := to_gt T i hn
  have h2 := to_le T i
  refine ⟨by show i ≤ toP T i; omega, h2, ?_⟩
  unfold takeP
  dsimp only
  rw [cnts_leaves, List.length_take, List.length_drop]
  omega
theorem miss_ct (w : List UInt8) : CtF T (missP s T b w) 1 := fun i hi => ⟨Nat.le_refl _, hi, by unfold missP; simp [cntsP, cntP]⟩
theorem want_ct (w : List UInt8) : CtF T (wantP s T b w) 1 := fun i hi => by
  unfold wantP
  exact ((take_ct s T b i hi).mono (by omega)).ite (miss_ct s T b w i hi)
theorem name_ct : CtF T (nameP s T b) 1 := fun i hi => by
  unfold nameP
  split
  · exact (take_ct s T b i hi).mono (by omega)
  · exact miss_ct s T b sName i hi
theorem many_ct {one : Nat → St} (ho : CtF T one 1) {i : Nat} {c : Int} : ∀ (f : Nat) (st : St), Ct T i c st → Ct T i c (manyP s T b one f st)
  | 0, st, h => h
  | f + 1, st, h => by
    rw [many_succ]
    split
    · rename_i hi
      exact many_ct ho f _ (((h.thn (take_ct1 s T b st.2 h.le (is_lt s T hi))).thnF ho).mono (by omega))
    · exact h
theorem params_ct : CtO T (paramsP s T b) 4 := fun i hi => by
  have h1 := want_ct s T b [40] i hi
  have h2 := many_ct s T b (name_ct s T b) (T.length + 1) _ (h1.thnF (name_ct s T b))
  exact ((((h1.mono (by omega : (1 : Int) ≤ 2)).ite (p := isP s T [[41]] (wantP s T b [40] i).2) h2).thnF (want_ct s T b [41])).br).mono (by omega)
theorem list_ct {e : Nat → St} (he : CtF T e 1) (kind : Nat) (shut : List UInt8) (i : Nat) (hi : i ≤ T.length) (hn : nextP T i < T.length) : Ct T i (-16) (oneP (listP s T b e kind shut i)) := by
  have h1 := take_ct1 s T b i hi hn
  have h2 := many_ct s T b he (T.length + 1) _ (h1.thnF he)
  exact ((((h1.mono (by omega : (-19 : Int) ≤ -18)).ite (p := isP s T [shut] (takeP s T b i).2) h2).thnF (want_ct s T b shut)).br).mono (by omega)
theorem part_ct {e : Nat → St} (he : CtF T e 1) : CtO T (partP s T b e) 1 := fun i hi => by
  show Ct T i 1 (oneP (partP s T b e i))
  unfold partP
  split
  · exact ((take_ct s T b i hi).br).mono (by omega)
  split
  · rename_i h
    exact ((((take_ct1 s T b i hi (is_lt s T h)).thnF he).thnF (want_ct s T b [41])).br).mono (by omega)
  split
  · rename_i h
    exact (list_ct s T b he 13 [93] i hi (is_lt s T h)).mono (by omega)
  · exact miss_ct s T b sExpr i hi
theorem calls_ct {e : Nat → St} (he : CtF T e 1) {i : Nat} : ∀ (f : Nat) (r : PT × Nat), Ct T i 1 (oneP r) → Ct T i 1 (oneP (callsP s T b e f r))
  | 0, r, h => h
  | f + 1, r, h => by
    rw [calls_succ]
    split
    · rename_i hi
      refine calls_ct he f _ ?_
      have h2 := h.thn (f := fun i => oneP (listP s T b e 12 [41] i)) (list_ct s T b he 12 [41] r.2 h.le (is_lt s T hi))
      exact (h2.br (kind := 11) (a := r.1.from_)).mono (by omega)
    · exact h
theorem call_ct {e : Nat → St} (he : CtF T e 1) : CtO T (callP s T b e) 1 := fun i hi => calls_ct s T b he _ _ (part_ct s T b he i hi)
theorem bin_ct {one : Nat → PT × Nat} (ho : CtO T one 1) {i : Nat} {r : PT × Nat} (h : Ct T i 1 (oneP r)) (hn : nextP T r.2 < T.length) : Ct T i 1 (oneP (binP s T b one r)) := by
  have h1 := (h.thn (f := takeP s T b) (take_ct1 s T b r.2 h.le hn)).thnF ho
  exact (h1.br (kind := 10) (a := r.1.from_)).mono (by omega)
theorem rows_ct {one : Nat → PT × Nat} (ho : CtO T one 1) (signs : List (List UInt8)) {i : Nat} : ∀ (f : Nat) (r : PT × Nat), Ct T i 1 (oneP r) → Ct T i 1 (oneP (rowsP s T b one signs f r))
  | 0, r, h => h
  | f + 1, r, h => by
    rw [rows_succ]
    split
    · rename_i hi
      exact rows_ct ho signs f _ (bin_ct s T b ho h (is_lt s T hi))
    · exact h
theorem row_ct {one : Nat → PT × Nat} (ho : CtO T one 1) (signs : List (List UInt8)) : CtO T (rowP s T b one signs) 1 := fun i hi => rows_ct s T b ho signs _ _ (ho i hi)
theorem comp_ct {e : Nat → St} (he : CtF T e 1) : CtO T (compP s T b e) 1 := fun i hi => by
  have hs : CtO T (sumP s T b e) 1 := row_ct s T b (row_ct s T b (call_ct s T b he) _) _
  show Ct T i 1 (oneP (compP s T b e i))
  unfold compP
  split
  · rename_i h
    exact bin_ct s T b hs (hs i hi) (is_lt s T h)
  · exact hs i hi
theorem expr_ct : ∀ f, CtO T (exprP s T b f) 1
  | 0 => fun i hi => ⟨Nat.le_refl _, hi, by simp [oneP, exprP, cntsP, cntP]⟩
  | f + 1 => fun i hi => by
    have he := expr_ct f
    have ht := take_ct1 s T b i hi
    show Ct T i 1 (oneP (exprP s T b (f + 1) i))
    rw [exprP]
    split
    · rename_i h
      exact (((((((ht (is_lt s T h)).thnF (name_ct s T b)).thnF (want_ct s T b [61])).thnF he).thnF (want_ct s T b sIn)).thnF he).br).mono (by omega)
    split
    · rename_i h
      exact (((((((ht (is_lt s T h)).thnF he).thnF (want_ct s T b sThen)).thnF he).thnF (want_ct s T b sElse)).thnF he).br).mono (by omega)
    split
    · rename_i h
      exact (((((ht (is_lt s T h)).thnF (params_ct s T b)).thnF (want_ct s T b [61, 62])).thnF he).br).mono (by omega)
    · exact comp_ct s T b he i hi
theorem pub_ct : CtF T (pubP s T b) 0 := fun i hi => by
  unfold pubP
  exact (take_ct s T b i hi).ite (Ct.nil hi)
theorem use_ct {i : Nat} {st : St} (h : Ct T i 0 st) : Ct T i 6 (useP s T b st) := by
  unfold useP
  have h4 := (((h.thnF (want_ct s T b sUse)).thnF (name_ct s T b)).thnF (want_ct s T b [46])).thnF (name_ct s T b)
  have h5 := (h4.thnF (take_ct s T b)).thnF (name_ct s T b)
  exact ((h5.ite (h4.mono (by omega))).thnF (want_ct s T b [59])).mono (by omega)
theorem def_ct {i : Nat} {st : St} (h : Ct T i 0 st) : Ct T i 9 (defP s T b st) := by
  unfold defP
  have h4 := (h.thnF (want_ct s T b sDef)).thnF (name_ct s T b)
  have h5 := h4.thnF (params_ct s T b)
  exact ((((h5.ite (h4.mono (by omega))).thnF (want_ct s T b [61])).thnF (expr_ct s T b 65)).thnF (want_ct s T b [59])).mono (by omega)
theorem item_ct : CtO T (itemP s T b) 10 := fun i hi => by
  have h0 := pub_ct s T b i hi
  show Ct T i 10 (oneP (itemP s T b i))
  unfold itemP
  split
  · exact ((use_ct s T b h0).br).mono (by omega)
  · exact ((def_ct s T b h0).br).mono (by omega)
theorem junks_ct {i : Nat} : ∀ (f : Nat) (last : Bool) (st : St), Ct T i 0 st → Ct T i 0 (junksP s T b f last st)
  | 0, _, st, h => h
  | f + 1, last, st, h => by
    rw [junks_succ]
    split
    · exact junks_ct f _ _ ((h.thnF (take_ct s T b)).mono (by omega))
    · exact h
theorem kid_ct : CtO T (kidP s T) 10 := fun i hi => by
  show Ct T i 10 (oneP (kidP s T i))
  unfold kidP
  split
  · exact item_ct s T _ i hi
  · exact ((junks_ct s T (absP s T i) (T.length + 1) false ([], i) (Ct.nil hi)).br).mono (by omega)
theorem kids_ct : ∀ (f i : Nat), i ≤ T.length → i ≤ (kidsP s T f i).2 ∧ (kidsP s T f i).2 ≤ T.length ∧ cntsP ((kidsP s T f i).1.map (·.part)) ≤ 30 * ((kidsP s T f i).2 - i)
  | 0, i, hi => ⟨Nat.le_refl _, hi, by unfold kidsP; simp [cntsP]⟩
  | f + 1, i, hi => by
    rw [kids_succ]
    split
    · rename_i hn
      have h1 := (kid_ct s T i hi).cnt
      have h2 : (kidP s T i).2 ≤ T.length := (kid_ct s T i hi).le
      have hg := kid_gt s T i hi hn
      obtain ⟨c1, c2, c3⟩ := kids_ct f (kidP s T i).2 h2
      have e : (kdP s T i).part = (kidP s T i).1 := rfl
      simp only [oneP, cntsP] at h1
      simp only [List.map_cons, cntsP, e]
      refine ⟨by omega, c2, by omega⟩
    · exact ⟨Nat.le_refl _, hi, by simp [cntsP]⟩
theorem all_ct : cntP (.branch 2 0 (allP s T)) ≤ 30 * T.length + 1 := by
  obtain ⟨c1, c2, c3⟩ := kids_ct s T (T.length + 1) 0 (Nat.zero_le _)
  have h : cntsP (tailP s T (kidsP s T (T.length + 1) 0).2) = T.length - (kidsP s T (T.length + 1) 0).2 := by
    unfold tailP
    rw [cnts_leaves, List.length_drop]
  unfold cntP allP
  rw [cnts_app, h]
  omega
end
mutual
/-- no more notes than parts -/
theorem rnotes_len : ∀ (p : PT) (a : Nat), (rnotesP p a).length ≤ cntP p
  | .leaf k t x, a => by
    unfold rnotesP cntP
    split <;> simp
  | .gap t x d, a => by unfold rnotesP cntP; simp
  | .branch k x l, a => by
    unfold rnotesP cntP
    rw [List.length_append]
    have := rnotess_len l a
    split <;> simp <;> omega
theorem rnotess_len : ∀ (l : List PT) (a : Nat), (rnotessP l a).length ≤ cntsP l
  | [], a => by unfold rnotessP cntsP; simp
  | p :: l, a => by
    unfold rnotessP cntsP
    rw [List.length_append]
    have := rnotes_len p a
    have := rnotess_len l (putP p a).end_
    omega
end
end Go.Proofs.YtalklmeejdmifaaGreatDoor.Tr
