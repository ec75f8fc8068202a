/-
  JOINED of the texts TX
-/
import Derived.Test.YtalklmeejdmifaaGreatDoorJaa
import Derived.Lib.RuneBytes
import Derived.Lib.Strings
/-
  TREES, plainly: where the document places its nodes; what is read is the text.
-/
namespace Go.Proofs.YtalklmeejdmifaaGreatDoor

/-- where a node ends; where it begins and ends without what is ahead (-1: it has no token); whether something is missing in it -/
structure Tr.Pl where
  end_ : Nat
  from_ : Int
  to_ : Int
  lacks : Bool
/-- a node that has come to a kid -/
def Tr.joinP (s q : Tr.Pl) : Tr.Pl := ⟨q.end_, if s.from_ < 0 then q.from_ else s.from_, if s.to_ < q.to_ then q.to_ else s.to_, s.lacks || q.lacks⟩
mutual
def Tr.putP : Tr.PT → Nat → Tr.Pl
  | .leaf k t _, a => if k = 1 ∨ k = 2 then ⟨a + t.length, -1, -1, false⟩ else ⟨a + t.length, (a : Int), ((a + t.length : Nat) : Int), false⟩
  | .gap _ _ _, a => ⟨a, -1, -1, true⟩
  | .branch _ _ l, a => Tr.putsP l ⟨a, -1, -1, false⟩
def Tr.putsP : List Tr.PT → Tr.Pl → Tr.Pl
  | [], s => s
  | p :: l, s => Tr.putsP l (Tr.joinP s (Tr.putP p s.end_))
end
mutual
/-- how long a part's text is -/
def Tr.wideP : Tr.PT → Nat
  | .leaf _ t _ => t.length
  | .gap _ _ _ => 0
  | .branch _ _ l => Tr.widesP l
def Tr.widesP : List Tr.PT → Nat
  | [] => 0
  | p :: l => Tr.wideP p + Tr.widesP l
end
mutual
/-- no branch is of a kind that leaves and gaps have, none is too long -/
def Tr.wfP : Tr.PT → Prop
  | .leaf _ _ _ => True
  | .gap _ _ _ => True
  | .branch k _ l => 2 ≤ k ∧ l.length ≤ 1000000000 ∧ Tr.wfsP l
def Tr.wfsP : List Tr.PT → Prop
  | [] => True
  | p :: l => Tr.wfP p ∧ Tr.wfsP l
end
mutual
theorem Tr.put_end : ∀ (p : Tr.PT) (a : Nat), (Tr.putP p a).end_ = a + Tr.wideP p
  | .leaf k t _, a => by unfold Tr.putP Tr.wideP; split <;> rfl
  | .gap _ _ _, a => by unfold Tr.putP Tr.wideP; rfl
  | .branch _ _ l, a => by unfold Tr.putP Tr.wideP; rw [Tr.puts_end l]
theorem Tr.puts_end : ∀ (l : List Tr.PT) (s : Tr.Pl), (Tr.putsP l s).end_ = s.end_ + Tr.widesP l
  | [], s => by unfold Tr.putsP Tr.widesP; rfl
  | p :: l, s => by
    unfold Tr.putsP Tr.widesP
    rw [Tr.puts_end l]
    have : (Tr.joinP s (Tr.putP p s.end_)).end_ = (Tr.putP p s.end_).end_ := rfl
    rw [this, Tr.put_end p]
    omega
end
theorem Tr.puts_app (l : List Tr.PT) (p : Tr.PT) (s : Tr.Pl) : Tr.putsP (l ++ [p]) s = Tr.joinP (Tr.putsP l s) (Tr.putP p (Tr.putsP l s).end_) := by
  induction l generalizing s with
  | nil => simp only [List.nil_append, Tr.putsP]
  | cons q l ih => simp only [List.cons_append, Tr.putsP, ih]
/-- places stand within so much -/
def Tr.Pl.In (q : Tr.Pl) (n : Int) : Prop := -1 ≤ q.from_ ∧ q.from_ ≤ n ∧ -1 ≤ q.to_ ∧ q.to_ ≤ n
theorem Tr.join_in {s q : Tr.Pl} {n : Int} (h : s.In n) (h' : q.In n) : (Tr.joinP s q).In n := by
  obtain ⟨a, b, c, d⟩ := h
  obtain ⟨a', b', c', d'⟩ := h'
  unfold Tr.joinP Tr.Pl.In
  dsimp only
  refine ⟨?_, ?_, ?_, ?_⟩ <;> split <;> assumption
mutual
theorem Tr.put_in : ∀ (p : Tr.PT) (a : Nat) (n : Int), ((a + Tr.wideP p : Nat) : Int) ≤ n → (Tr.putP p a).In n
  | .leaf k t _, a, n, h => by
    unfold Tr.wideP at h
    unfold Tr.putP Tr.Pl.In
    split <;> (dsimp only; omega)
  | .gap _ _ _, a, n, h => by
    unfold Tr.wideP at h
    unfold Tr.putP Tr.Pl.In
    dsimp only
    omega
  | .branch _ _ l, a, n, h => by
    unfold Tr.wideP at h
    unfold Tr.putP
    exact Tr.puts_in l _ n h (by unfold Tr.Pl.In; dsimp only; omega)
theorem Tr.puts_in : ∀ (l : List Tr.PT) (s : Tr.Pl) (n : Int), ((s.end_ + Tr.widesP l : Nat) : Int) ≤ n → s.In n → (Tr.putsP l s).In n
  | [], s, n, _, hs => by unfold Tr.putsP; exact hs
  | p :: l, s, n, h, hs => by
    unfold Tr.widesP at h
    unfold Tr.putsP
    have h1 := Tr.put_end p s.end_
    exact Tr.puts_in l _ n (by show (((Tr.putP p s.end_).end_ + _ : Nat) : Int) ≤ n; omega) (Tr.join_in hs (Tr.put_in p _ n (by omega)))
end

namespace Tr
mutual
/-- the text of a part -/
def textOf : PT → List UInt8
  | .leaf _ t _ => t
  | .gap _ _ _ => []
  | .branch _ _ l => textsOf l
def textsOf : List PT → List UInt8
  | [] => []
  | p :: l => textOf p ++ textsOf l
end
mutual
theorem wide_text : ∀ p : PT, wideP p = (textOf p).length
  | .leaf _ _ _ => by unfold wideP textOf; rfl
  | .gap _ _ _ => by unfold wideP textOf; rfl
  | .branch _ _ l => by unfold wideP textOf; exact wides_text l
theorem wides_text : ∀ l : List PT, widesP l = (textsOf l).length
  | [] => by unfold widesP textsOf; rfl
  | p :: l => by unfold widesP textsOf; rw [List.length_append, wide_text p, wides_text l]
end
theorem texts_app (l m : List PT) : textsOf (l ++ m) = textsOf l ++ textsOf m := by
  induction l with
  | nil => simp [textsOf]
  | cons p l ih => simp only [List.cons_append, textsOf, ih, List.append_assoc]
theorem wfs_app (l m : List PT) : wfsP (l ++ m) ↔ wfsP l ∧ wfsP m := by
  induction l with
  | nil => simp [wfsP]
  | cons p l ih => simp only [List.cons_append, wfsP, ih, and_assoc]

section
variable (s : List UInt8) (T : List (Nat × Nat × Nat)) (b : Nat)
/-- the text of the tokens from i up to j -/
def sl (i j : Nat) : List UInt8 := (s.drop (absP s T i)).take (absP s T j - absP s T i)
theorem sl_self (i : Nat) : sl s T i i = [] := by unfold sl; rw [Nat.sub_self, List.take_zero]
/-- tokens that stand side by side in a text -/
structure Side : Prop where
  good : Good s T
  tile : ∀ k (h : k < T.length), T[k].2.1 + T[k].2.2 = absP s T (k + 1)
  first : absP s T 0 = 0
  few : T.length ≤ 400000000
variable {s T}
theorem sl_add (h : Good s T) {i j k : Nat} (hij : i ≤ j) (hjk : j ≤ k) : sl s T i j ++ sl s T j k = sl s T i k := by
  have h1 := h.up i j hij
  have h2 := h.up j k hjk
  unfold sl
  generalize absP s T i = x at *
  generalize absP s T j = y at *
  generalize absP s T k = z at *
  have e : z - x = (y - x) + (z - y) := by omega
  rw [e, List.take_add, List.drop_drop]
  congr 3
  omega
theorem sl_one (h : Side s T) {k : Nat} (hk : k < T.length) : subT s T[k] = sl s T k (k + 1) := by
  have h1 := h.tile k hk
  have h2 := abs_at s T k hk
  unfold subT sl
  rw [← h1, h2, Nat.add_sub_cancel_left]
theorem sl_len (h : Good s T) {i j : Nat} (hij : i ≤ j) : (sl s T i j).length = absP s T j - absP s T i := by
  have h1 := h.up i j hij
  have h2 := h.abs_le j
  unfold sl
  rw [List.length_take, List.length_drop]
  omega
/-- parts that were read from token i on: they are the text, and well formed -/
structure Fine (s : List UInt8) (T : List (Nat × Nat × Nat)) (i c : Nat) (st : St) : Prop where
  ok : StOk T i c st
  text : textsOf st.1 = sl s T i st.2
  wf : wfsP st.1
structure FineF (s : List UInt8) (T : List (Nat × Nat × Nat)) (f : Nat → St) (c : Nat) : Prop where
  adv : Adv T f c
  fine : ∀ i, i ≤ T.length → textsOf (f i).1 = sl s T i (f i).2 ∧ wfsP (f i).1
theorem FineF.at_ {f : Nat → St} {c i : Nat} (h : FineF s T f c) (hi : i ≤ T.length) : Fine s T i c (f i) := ⟨StOk.of h.adv hi, (h.fine i hi).1, (h.fine i hi).2⟩
theorem FineF.of {f : Nat → St} {c : Nat} (h : ∀ i, i ≤ T.length → Fine s T i c (f i)) : FineF s T f c := ⟨fun i hi => (h i hi).ok, fun i hi => ⟨(h i hi).text, (h i hi).wf⟩⟩
theorem Fine.thn {i c d : Nat} {st : St} {f : Nat → St} (hS : Side s T) (h : Fine s T i c st) (hf : FineF s T f d) : Fine s T i (c + d) (thn st f) := by
  have h1 := hf.fine st.2 h.ok.2.1
  have h2 := (hf.adv st.2 h.ok.2.1).1
  refine ⟨h.ok.thn hf.adv, ?_, ?_⟩
  · unfold Tr.thn
    dsimp only
    rw [texts_app, h.text, h1.1]
    exact sl_add hS.good h.ok.1 h2
  · unfold Tr.thn
    exact (wfs_app _ _).2 ⟨h.wf, h1.2⟩
theorem Fine.mono {i c d : Nat} {st : St} (h : Fine s T i c st) (hd : c ≤ d) : Fine s T i d st := ⟨h.ok.mono hd, h.text, h.wf⟩
theorem Fine.ite {i c : Nat} {st u : St} {p : Bool} (h : Fine s T i c st) (hu : Fine s T i c u) : Fine s T i c (if p then st else u) := by
  split
  · exact h
  · exact hu
theorem Fine.nil {i : Nat} (hi : i ≤ T.length) : Fine s T i 0 ([], i) := ⟨⟨Nat.le_refl _, hi, by simp⟩, by rw [sl_self]; rfl, trivial⟩
/-- a part that is a branch of what was read -/
theorem Fine.br {i c kind a : Nat} {st : St} (hS : Side s T) (h : Fine s T i c st) (hc : c ≤ 1000) (hk : 2 ≤ kind) : Fine s T i 1 ([.branch kind a st.1], st.2) := by
  refine ⟨⟨h.ok.1, h.ok.2.1, by simp⟩, ?_, ?_⟩
  · simp only [textsOf, textOf, List.append_nil, h.text]
  · have h1 := h.ok.2.2
    have h2 := h.ok.2.1
    have h3 := hS.few
    exact ⟨⟨hk, by omega, h.wf⟩, trivial⟩
variable (hS : Side s T)
include hS
theorem leaves_fine : ∀ (n i : Nat), i + n ≤ T.length → textsOf (((T.drop i).take n).map (leafP s b)) = sl s T i (i + n) ∧ wfsP (((T.drop i).take n).map (leafP s b))
  | 0, i, _ => by rw [List.take_zero, Nat.add_zero, sl_self]; exact ⟨rfl, trivial⟩
  | n + 1, i, h => by
    have ih := leaves_fine n (i + 1) (by omega)
    have hi : i < T.length := by omega
    rw [List.drop_eq_getElem_cons hi, List.take_succ_cons, List.map_cons]
    refine ⟨?_, trivial, ih.2⟩
    rw [show i + (n + 1) = (i + 1) + n by omega, ← sl_add hS.good (Nat.le_succ i) (by omega), ← sl_one hS hi]
    simp only [textsOf, ih.1]
    rfl
theorem take_fine : FineF s T (takeP s T b) 0 := ⟨take_adv s T b, fun i hi => by
  have h1 := to_ge T i hi
  have h2 := to_le T i
  have h := leaves_fine b hS (toP T i - i) i (by omega)
  rw [show i + (toP T i - i) = toP T i by omega] at h
  exact h⟩
omit hS in
theorem miss_fine (w : List UInt8) : FineF s T (missP s T b w) 1 := ⟨miss_adv s T b w, fun i hi => ⟨by unfold missP; rw [sl_self]; rfl, trivial, trivial⟩⟩
theorem want_fine (w : List UInt8) : FineF s T (wantP s T b w) 1 := FineF.of fun i hi => by
  unfold wantP
  exact (((take_fine b hS).at_ hi).mono (Nat.zero_le _)).ite ((miss_fine b w).at_ hi)
theorem name_fine : FineF s T (nameP s T b) 1 := FineF.of fun i hi => by
  unfold nameP
  exact (((take_fine b hS).at_ hi).mono (Nat.zero_le _)).ite ((miss_fine b sName).at_ hi)
theorem round_fine {one : Nat → St} (ho : FineF s T one 1) {i : Nat} {st : St} (h : Fine s T i 2 st) (hn : nextP T st.2 < T.length) : Fine s T i 2 (roundP s T b one st) := by
  have h1 := (h.thn hS (take_fine b hS)).thn hS ho
  have h2 := round_adv s T b ho.adv st h.ok.2.1 hn
  exact ⟨⟨h1.ok.1, h1.ok.2.1, by have := h.ok.2.2; have := h.ok.1; omega⟩, h1.text, h1.wf⟩
theorem many_fine {one : Nat → St} (ho : FineF s T one 1) {i : Nat} : ∀ (f : Nat) (st : St), Fine s T i 2 st → Fine s T i 2 (manyP s T b one f st)
  | 0, st, h => h
  | f + 1, st, h => by
    rw [many_succ]
    split
    · rename_i hi
      exact many_fine ho f _ (round_fine b hS ho h (is_lt s T hi))
    · exact h
/-- a function that reads one part -/
def OneF (s : List UInt8) (T : List (Nat × Nat × Nat)) (f : Nat → PT × Nat) : Prop := FineF s T (fun i => oneP (f i)) 1
omit hS in
theorem OneF.of {f : Nat → PT × Nat} (h : ∀ i, i ≤ T.length → Fine s T i 1 (oneP (f i))) : OneF s T f := FineF.of h
theorem params_fine : OneF s T (paramsP s T b) := OneF.of fun i hi => by
  have h1 := (want_fine b hS [40]).at_ hi
  have h2 := many_fine b hS (name_fine b hS) (T.length + 1) _ (h1.thn hS (name_fine b hS))
  have h3 := ((h1.mono (by omega : 1 ≤ 2)).ite (p := isP s T [[41]] (wantP s T b [40] i).2) h2).thn hS (want_fine b hS [41])
  exact h3.br hS (by omega) (by omega)
theorem list_fine {e : Nat → St} (he : FineF s T e 1) (kind : Nat) (hk : 2 ≤ kind) (shut : List UInt8) : OneF s T (listP s T b e kind shut) := OneF.of fun i hi => by
  have h1 := (take_fine b hS).at_ hi
  have h2 := many_fine b hS he (T.length + 1) _ ((h1.thn hS he).mono (by omega))
  have h3 := ((h1.mono (by omega : 0 ≤ 2)).ite (p := isP s T [shut] (takeP s T b i).2) h2).thn hS (want_fine b hS shut)
  exact h3.br hS (by omega) hk
omit hS in
theorem leafK_ge (k : Nat) (t : List UInt8) (h : 0 < leafK k t) : 2 ≤ leafK k t := by
  unfold leafK at *
  repeat' split
  all_goals first | omega | simp_all
theorem part_fine {e : Nat → St} (he : FineF s T e 1) : OneF s T (partP s T b e) := OneF.of fun i hi => by
  unfold partP
  split
  · rename_i h
    exact ((take_fine b hS).at_ hi).br hS (by omega) (leafK_ge _ _ h)
  split
  · exact ((((take_fine b hS).at_ hi).thn hS he).thn hS (want_fine b hS [41])).br hS (by omega) (by omega)
  split
  · exact (list_fine b hS he 13 (by omega) [93]).at_ hi
  · exact ⟨⟨Nat.le_refl _, hi, by simp [oneP]⟩, by unfold oneP; rw [sl_self]; rfl, trivial, trivial⟩
omit hS in
theorem oneP_text {r : PT × Nat} {i : Nat} (h : Fine s T i 1 (oneP r)) : textOf r.1 = sl s T i r.2 ∧ wfP r.1 ∧ i ≤ r.2 ∧ r.2 ≤ T.length := by
  have h1 := h.text
  have h2 := h.wf
  simp only [oneP, textsOf, List.append_nil] at h1
  exact ⟨h1, h2.1, h.ok.1, h.ok.2.1⟩
omit hS in
theorem oneP_fine {r : PT × Nat} {i : Nat} (h1 : textOf r.1 = sl s T i r.2) (h2 : wfP r.1) (h3 : i ≤ r.2) (h4 : r.2 ≤ T.length) : Fine s T i 1 (oneP r) :=
  ⟨⟨h3, h4, by simp [oneP]⟩, by simp only [oneP, textsOf, List.append_nil, h1], h2, trivial⟩
theorem calls_fine {e : Nat → St} (he : FineF s T e 1) {i : Nat} : ∀ (f : Nat) (r : PT × Nat), Fine s T i 1 (oneP r) → Fine s T i 1 (oneP (callsP s T b e f r))
  | 0, r, h => h
  | f + 1, r, h => by
    rw [calls_succ]
    split
    · refine calls_fine he f _ ?_
      have h2 := oneP_text ((list_fine b hS he 12 (by omega) [41]).at_ h.ok.2.1)
      obtain ⟨a1, a2, a3, a4⟩ := oneP_text h
      obtain ⟨b1, b2, b3, b4⟩ := h2
      have b1 : textOf (listP s T b e 12 [41] r.2).1 = sl s T r.2 (listP s T b e 12 [41] r.2).2 := b1
      have b3 : r.2 ≤ (listP s T b e 12 [41] r.2).2 := b3
      refine oneP_fine ?_ ?_ ?_ ?_
      · simp only [callR, textOf, textsOf, List.append_nil, a1, b1]
        exact sl_add hS.good a3 b3
      · unfold callR; exact ⟨by omega, by simp, a2, b2, trivial⟩
      · unfold callR; dsimp only; omega
      · exact b4
    · exact h
theorem call_fine {e : Nat → St} (he : FineF s T e 1) : OneF s T (callP s T b e) := OneF.of fun _ hi => calls_fine b hS he _ _ ((part_fine b hS he).at_ hi)
theorem bin_fine {one : Nat → PT × Nat} (ho : OneF s T one) {i : Nat} {r : PT × Nat} (h : Fine s T i 1 (oneP r)) : Fine s T i 1 (oneP (binP s T b one r)) := by
  have h1 := (h.thn hS (take_fine b hS)).thn hS ho
  exact h1.br (kind := 10) (a := r.1.from_) hS (by omega) (by omega)
theorem rows_fine {one : Nat → PT × Nat} (ho : OneF s T one) (signs : List (List UInt8)) {i : Nat} : ∀ (f : Nat) (r : PT × Nat), Fine s T i 1 (oneP r) → Fine s T i 1 (oneP (rowsP s T b one signs f r))
  | 0, r, h => h
  | f + 1, r, h => by
    rw [rows_succ]
    split
    · exact rows_fine ho signs f _ (bin_fine b hS ho h)
    · exact h
theorem row_fine {one : Nat → PT × Nat} (ho : OneF s T one) (signs : List (List UInt8)) : OneF s T (rowP s T b one signs) := OneF.of fun _ hi => rows_fine b hS ho signs _ _ (ho.at_ hi)
theorem comp_fine {e : Nat → St} (he : FineF s T e 1) : OneF s T (compP s T b e) := OneF.of fun i hi => by
  have hs : OneF s T (sumP s T b e) := row_fine b hS (row_fine b hS (call_fine b hS he) _) _
  unfold compP
  split
  · exact bin_fine b hS hs (hs.at_ hi)
  · exact hs.at_ hi
theorem expr_fine : ∀ f, OneF s T (exprP s T b f)
  | 0 => OneF.of fun i hi => ⟨⟨Nat.le_refl _, hi, by simp [oneP]⟩, by unfold exprP oneP; rw [sl_self]; rfl, trivial, trivial⟩
  | f + 1 => OneF.of fun i hi => by
    have he := expr_fine f
    have ht := (take_fine b hS).at_ hi
    rw [exprP]
    split
    · exact (((((ht.thn hS (name_fine b hS)).thn hS (want_fine b hS [61])).thn hS he).thn hS (want_fine b hS sIn)).thn hS he).br hS (by omega) (by omega)
    split
    · exact (((((ht.thn hS he).thn hS (want_fine b hS sThen)).thn hS he).thn hS (want_fine b hS sElse)).thn hS he).br hS (by omega) (by omega)
    split
    · exact (((ht.thn hS (params_fine b hS)).thn hS (want_fine b hS [61, 62])).thn hS he).br hS (by omega) (by omega)
    · exact (comp_fine b hS he).at_ hi
theorem pub_fine : FineF s T (pubP s T b) 0 := FineF.of fun i hi => by
  unfold pubP
  exact ((take_fine b hS).at_ hi).ite (Fine.nil hi)
theorem use_fine {i c : Nat} {st : St} (h : Fine s T i c st) : Fine s T i (c + 6) (useP s T b st) := by
  unfold useP
  have h4 := (((h.thn hS (want_fine b hS sUse)).thn hS (name_fine b hS)).thn hS (want_fine b hS [46])).thn hS (name_fine b hS)
  have h5 := (h4.thn hS (take_fine b hS)).thn hS (name_fine b hS)
  exact ((h5.ite (h4.mono (by omega))).thn hS (want_fine b hS [59])).mono (by omega)
theorem def_fine {i c : Nat} {st : St} (h : Fine s T i c st) : Fine s T i (c + 6) (defP s T b st) := by
  unfold defP
  have h4 := (h.thn hS (want_fine b hS sDef)).thn hS (name_fine b hS)
  have h5 := h4.thn hS (params_fine b hS)
  exact ((((h5.ite (h4.mono (by omega))).thn hS (want_fine b hS [61])).thn hS (expr_fine b hS 65)).thn hS (want_fine b hS [59])).mono (by omega)
theorem item_fine : OneF s T (itemP s T b) := OneF.of fun i hi => by
  have h0 := (pub_fine b hS).at_ hi
  unfold itemP
  split
  · exact (use_fine b hS h0).br hS (by omega) (by omega)
  · exact (def_fine b hS h0).br hS (by omega) (by omega)
theorem junks_fine {i : Nat} : ∀ (f : Nat) (last : Bool) (st : St), Fine s T i 0 st → Fine s T i 0 (junksP s T b f last st)
  | 0, _, st, h => h
  | f + 1, last, st, h => by
    rw [junks_succ]
    split
    · exact junks_fine f _ _ (h.thn hS (take_fine b hS))
    · exact h
theorem junk_fine : OneF s T (junkP s T b) := OneF.of fun i hi => (junks_fine b hS _ _ _ (Fine.nil hi)).br hS (by omega) (by omega)

theorem kid_fine : OneF s T (kidP s T) := OneF.of fun i hi => by
  unfold kidP
  split
  · exact (item_fine _ hS).at_ hi
  · exact (junk_fine _ hS).at_ hi
/-- the kids of the root -/
theorem kids_fine : ∀ (f i : Nat), i ≤ T.length → textsOf ((kidsP s T f i).1.map (·.part)) = sl s T i (kidsP s T f i).2 ∧ wfsP ((kidsP s T f i).1.map (·.part)) ∧ i ≤ (kidsP s T f i).2 ∧ (kidsP s T f i).2 ≤ T.length ∧ (kidsP s T f i).1.length ≤ (kidsP s T f i).2 - i
  | 0, i, hi => by unfold kidsP; rw [sl_self]; exact ⟨rfl, trivial, Nat.le_refl _, hi, Nat.zero_le _⟩
  | f + 1, i, hi => by
    rw [kids_succ]
    split
    · rename_i hn
      have h1 := oneP_text ((kid_fine hS).at_ hi)
      obtain ⟨a1, a2, a3, a4⟩ := h1
      have hg := kid_gt s T i hi hn
      have ih := kids_fine f (kidP s T i).2 a4
      obtain ⟨c1, c2, c3, c4, c5⟩ := ih
      have e : (kdP s T i).part = (kidP s T i).1 := rfl
      simp only [List.map_cons, textsOf, c1, wfsP, e, a1, List.length_cons]
      refine ⟨sl_add hS.good a3 c3, ⟨a2, c2⟩, by omega, c4, by omega⟩
    · rw [sl_self]; exact ⟨rfl, trivial, Nat.le_refl _, hi, Nat.zero_le _⟩
theorem tail_fine (i : Nat) (hi : i ≤ T.length) : textsOf (tailP s T i) = sl s T i T.length ∧ wfsP (tailP s T i) := by
  have h := leaves_fine 0 hS (T.length - i) i (by omega)
  rw [show i + (T.length - i) = T.length by omega] at h
  have e : (T.drop i).take (T.length - i) = T.drop i := List.take_of_length_le (by rw [List.length_drop]; exact Nat.le_refl _)
  rw [e] at h
  exact h
/-- the kids of the root and the leaves behind them -/
def allP (s : List UInt8) (T : List (Nat × Nat × Nat)) : List PT := (kidsP s T (T.length + 1) 0).1.map (·.part) ++ tailP s T (kidsP s T (T.length + 1) 0).2
theorem all_fine : textsOf (allP s T) = s ∧ wfsP (allP s T) ∧ (allP s T).length ≤ T.length := by
  obtain ⟨c1, c2, c3, c4, c5⟩ := kids_fine hS (T.length + 1) 0 (Nat.zero_le _)
  have h := tail_fine hS (kidsP s T (T.length + 1) 0).2 c4
  unfold allP
  refine ⟨?_, (wfs_app _ _).2 ⟨c2, h.2⟩, ?_⟩
  · rw [texts_app, c1, h.1, sl_add hS.good c3 c4]
    unfold sl
    rw [hS.first, abs_end s T _ (Nat.le_refl _), Nat.sub_zero, List.drop_zero, List.take_length]
  · rw [List.length_append, List.length_map]
    unfold tailP
    rw [List.length_map, List.length_drop]
    omega
end
end Tr
end Go.Proofs.YtalklmeejdmifaaGreatDoor
