/-
  JOINED of the texts TA TB TC TX SA YA
-/
import Derived.Lib.RuneBytes
import Derived.Lib.Strings
set_option linter.all false
namespace Go.Proofs.YtcjjfeephaddcaaGreatDoor.Tr
inductive PT where
 | leaf (tok : Nat) (text : List UInt8) (at_ : Nat)
 | gap (text : List UInt8) (at_ : Nat) (deep : Bool)
 | branch (kind : Nat) (at_ : Nat) (kids : List PT)
abbrev St := List PT × Nat
def thn (st : St) (f : Nat → St) : St := (st.1 ++ (f st.2).1, (f st.2).2)
def oneP (r : PT × Nat) : St := ([r.1], r.2)
def PT.from_ : PT → Nat
 | .leaf _ _ a => a
 | .gap _ a _ => a
 | .branch _ a _ => a
mutual
def PT.to_ : PT → Nat
 | .leaf _ t a => a + t.length
 | .gap _ a _ => a
 | .branch _ a l => lastTo a l
def lastTo (a : Nat) : List PT → Nat
 | [] => a
 | p :: l => lastTo (PT.to_ p) l
end
def blankT (t : Nat × Nat × Nat) : Bool := t.1 == 1 || t.1 == 2
def nextP (T : List (Nat × Nat × Nat)) (i : Nat) : Nat := i + ((T.drop i).takeWhile blankT).length
def kindP (T : List (Nat × Nat × Nat)) (n : Nat) : Nat := (T[n]?.map (·.1)).getD 0
def subT (s : List UInt8) (t : Nat × Nat × Nat) : List UInt8 := (s.drop t.2.1).take t.2.2
def textP (s : List UInt8) (T : List (Nat × Nat × Nat)) (n : Nat) : List UInt8 := (T[n]?.map (subT s)).getD []
section
variable (s : List UInt8) (T : List (Nat × Nat × Nat)) (b : Nat)
def absP (i : Nat) : Nat := (T[i]?.map (·.2.1)).getD s.length
def placeP (i : Nat) : Nat := absP s T i - b
def isP (l : List (List UInt8)) (i : Nat) : Bool := (kindP T (nextP T i) == 4 || kindP T (nextP T i) == 7) && l.contains (textP s T (nextP T i))
def leafP (t : Nat × Nat × Nat) : PT := .leaf t.1 (subT s t) (t.2.1 - b)
def toP (i : Nat) : Nat := min (nextP T i + 1) T.length
def takeP (i : Nat) : St := (((T.drop i).take (toP T i - i)).map (leafP s b), toP T i)
def missP (w : List UInt8) (i : Nat) : St := ([.gap w (placeP s T b i) false], i)
def wantP (w : List UInt8) (i : Nat) : St := if isP s T [w] i then takeP s T b i else missP s T b w i
def sName : List UInt8 := [110, 97, 109, 101]
def sExpr : List UInt8 := [101, 120, 112, 114, 101, 115, 115, 105, 111, 110]
def nameP (i : Nat) : St := if kindP T (nextP T i) == 3 then takeP s T b i else missP s T b sName i
def manyP (one : Nat → St) : Nat → St → St
 | 0, st => st
 | f + 1, st => if isP s T [[44]] st.2 then manyP one f (thn (thn st (takeP s T b)) one) else st
def brP (kind i : Nat) (st : St) : PT × Nat := (.branch kind (placeP s T b i) st.1, st.2)
def paramsP (i : Nat) : PT × Nat :=
 brP s T b 6 i (thn (if isP s T [[41]] (wantP s T b [40] i).2 then wantP s T b [40] i else manyP s T b (nameP s T b) (T.length + 1) (thn (wantP s T b [40] i) (nameP s T b))) (wantP s T b [41]))
def listP (e : Nat → St) (kind : Nat) (shut : List UInt8) (i : Nat) : PT × Nat :=
 brP s T b kind i (thn (if isP s T [shut] (takeP s T b i).2 then takeP s T b i else manyP s T b e (T.length + 1) (thn (takeP s T b i) e)) (wantP s T b shut))
def sTrue : List UInt8 := [116, 114, 117, 101]
def sFalse : List UInt8 := [102, 97, 108, 115, 101]
def leafK (k : Nat) (t : List UInt8) : Nat :=
 if k = 4 ∧ (t = sTrue ∨ t = sFalse) then 17 else if k = 7 ∧ t = [63] then 19 else if k = 5 then 15 else if k = 6 then 16 else if k = 3 then 18 else 0
def partP (e : Nat → St) (i : Nat) : PT × Nat :=
 if 0 < leafK (kindP T (nextP T i)) (textP s T (nextP T i)) then brP s T b (leafK (kindP T (nextP T i)) (textP s T (nextP T i))) i (takeP s T b i)
 else if isP s T [[40]] i then brP s T b 14 i (thn (thn (takeP s T b i) e) (wantP s T b [41]))
 else if isP s T [[91]] i then listP s T b e 13 [93] i
 else (.gap sExpr (placeP s T b i) false, i)
def callsP (e : Nat → St) : Nat → PT × Nat → PT × Nat
 | 0, r => r
 | f + 1, r => if isP s T [[40]] r.2 then callsP e f (.branch 11 r.1.from_ [r.1, (listP s T b e 12 [41] r.2).1], (listP s T b e 12 [41] r.2).2) else r
def callP (e : Nat → St) (i : Nat) : PT × Nat := callsP s T b e (T.length + 1) (partP s T b e i)
def binP (one : Nat → PT × Nat) (r : PT × Nat) : PT × Nat :=
 (.branch 10 r.1.from_ (r.1 :: (thn (takeP s T b r.2) (fun i => oneP (one i))).1), (thn (takeP s T b r.2) (fun i => oneP (one i))).2)
def rowsP (one : Nat → PT × Nat) (signs : List (List UInt8)) : Nat → PT × Nat → PT × Nat
 | 0, r => r
 | f + 1, r => if isP s T signs r.2 then rowsP one signs f (binP s T b one r) else r
def rowP (one : Nat → PT × Nat) (signs : List (List UInt8)) (i : Nat) : PT × Nat := rowsP s T b one signs (T.length + 1) (one i)
def productP (e : Nat → St) (i : Nat) : PT × Nat := rowP s T b (callP s T b e) [[42]] i
def sumP (e : Nat → St) (i : Nat) : PT × Nat := rowP s T b (productP s T b e) [[43], [45], [43, 43]] i
def compP (e : Nat → St) (i : Nat) : PT × Nat :=
 if isP s T [[61, 61], [60]] (sumP s T b e i).2 then binP s T b (sumP s T b e) (sumP s T b e i) else sumP s T b e i
def sLet : List UInt8 := [108, 101, 116]
def sIf : List UInt8 := [105, 102]
def sFun : List UInt8 := [102, 117, 110]
def sIn : List UInt8 := [105, 110]
def sThen : List UInt8 := [116, 104, 101, 110]
def sElse : List UInt8 := [101, 108, 115, 101]
def letP (e : Nat → St) (i : Nat) : PT × Nat := brP s T b 7 i (thn (thn (thn (thn (thn (takeP s T b i) (nameP s T b)) (wantP s T b [61])) e) (wantP s T b sIn)) e)
def ifP (e : Nat → St) (i : Nat) : PT × Nat := brP s T b 8 i (thn (thn (thn (thn (thn (takeP s T b i) e) (wantP s T b sThen)) e) (wantP s T b sElse)) e)
def funP (e : Nat → St) (i : Nat) : PT × Nat := brP s T b 9 i (thn (thn (thn (takeP s T b i) fun i => oneP (paramsP s T b i)) (wantP s T b [61, 62])) e)
def exprP : Nat → Nat → PT × Nat
 | 0, i => (.gap sExpr (placeP s T b i) true, i)
 | f + 1, i =>
  if isP s T [sLet] i then letP s T b (fun i => oneP (exprP f i)) i
  else if isP s T [sIf] i then ifP s T b (fun i => oneP (exprP f i)) i
  else if isP s T [sFun] i then funP s T b (fun i => oneP (exprP f i)) i
  else compP s T b (fun i => oneP (exprP f i)) i
def sUse : List UInt8 := [117, 115, 101]
def sPub : List UInt8 := [112, 117, 98]
def sDef : List UInt8 := [100, 101, 102]
def sAs : List UInt8 := [97, 115]
def startP (i : Nat) : Bool := isP s T [sUse, sPub, sDef] i
def junksP : Nat → Bool → St → St
 | 0, _, st => st
 | f + 1, last, st => if last = false ∧ nextP T st.2 < T.length ∧ startP s T st.2 = false then junksP f (isP s T [[59]] st.2) (thn st (takeP s T b)) else st
def pubP (i : Nat) : St := if isP s T [sPub] i then takeP s T b i else ([], i)
def useP (st : St) : St :=
 let u := thn (thn (thn (thn st (wantP s T b sUse)) (nameP s T b)) (wantP s T b [46])) (nameP s T b)
 thn (if isP s T [sAs] u.2 then thn (thn u (takeP s T b)) (nameP s T b) else u) (wantP s T b [59])
def defP (st : St) : St :=
 let u := thn (thn st (wantP s T b sDef)) (nameP s T b)
 thn (thn (thn (if isP s T [[40]] u.2 then thn u (fun i => oneP (paramsP s T b i)) else u) (wantP s T b [61])) (fun i => oneP (exprP s T b 65 i))) (wantP s T b [59])
def itemP (i : Nat) : PT × Nat :=
 if isP s T [sUse] (pubP s T b i).2 then brP s T b 3 i (useP s T b (pubP s T b i)) else brP s T b 4 i (defP s T b (pubP s T b i))
def junkP (i : Nat) : PT × Nat := brP s T b 5 i (junksP s T b (T.length + 1) false ([], i))
end
section
variable (s : List UInt8) (T : List (Nat × Nat × Nat))
def kidP (i : Nat) : PT × Nat := if startP s T i then itemP s T (absP s T i) i else junkP s T (absP s T i) i
structure Kd where
 part : PT
 base : Nat
 first : Nat
 last : Nat
def kidsP : Nat → Nat → List Kd × Nat
 | 0, i => ([], i)
 | f + 1, i => if nextP T i < T.length then (⟨(kidP s T i).1, absP s T i, i, (kidP s T i).2⟩ :: (kidsP f (kidP s T i).2).1, (kidsP f (kidP s T i).2).2) else ([], i)
def tailP (i : Nat) : List PT := (T.drop i).map (leafP s 0)
end
section
variable (s : List UInt8) (T : List (Nat × Nat × Nat)) (b : Nat)
theorem next_ge (i : Nat) : i ≤ nextP T i := by unfold nextP; omega
theorem next_le (i : Nat) (h : i ≤ T.length) : nextP T i ≤ T.length := by
 unfold nextP
 have := (List.takeWhile_prefix blankT (l := T.drop i)).length_le
 rw [List.length_drop] at this
 omega
theorem next_end (i : Nat) (h : T.length ≤ i) : nextP T i = i := by
 unfold nextP
 rw [List.drop_eq_nil_of_le h]
 rfl
theorem next_go (i : Nat) (h : i < T.length) (hb : blankT T[i] = true) : nextP T i = nextP T (i + 1) := by
 unfold nextP
 rw [List.drop_eq_getElem_cons h, List.takeWhile_cons, if_pos hb, List.length_cons]
 omega
theorem next_stop (i : Nat) (h : i < T.length) (hb : blankT T[i] = false) : nextP T i = i := by
 unfold nextP
 rw [List.drop_eq_getElem_cons h, List.takeWhile_cons, if_neg (by rw [hb]; simp)]
 rfl
theorem to_ge (i : Nat) (h : i ≤ T.length) : i ≤ toP T i := by
 have := next_ge T i
 unfold toP; omega
theorem to_le (i : Nat) : toP T i ≤ T.length := by unfold toP; omega
theorem to_gt (i : Nat) (h : nextP T i < T.length) : i < toP T i := by
 have := next_ge T i
 unfold toP; omega
theorem kind_end (n : Nat) (h : T.length ≤ n) : kindP T n = 0 := by unfold kindP; rw [List.getElem?_eq_none h]; rfl
theorem kind_at (n : Nat) (h : n < T.length) : kindP T n = T[n].1 := by unfold kindP; rw [List.getElem?_eq_getElem h]; rfl
theorem text_end (n : Nat) (h : T.length ≤ n) : textP s T n = [] := by unfold textP; rw [List.getElem?_eq_none h]; rfl
theorem text_at (n : Nat) (h : n < T.length) : textP s T n = subT s T[n] := by unfold textP; rw [List.getElem?_eq_getElem h]; rfl
theorem abs_end (n : Nat) (h : T.length ≤ n) : absP s T n = s.length := by unfold absP; rw [List.getElem?_eq_none h]; rfl
theorem abs_at (n : Nat) (h : n < T.length) : absP s T n = T[n].2.1 := by unfold absP; rw [List.getElem?_eq_getElem h]; rfl
theorem is_lt {l : List (List UInt8)} {i : Nat} (h : isP s T l i = true) : nextP T i < T.length := by
 apply Nat.lt_of_not_le
 intro hn
 unfold isP at h
 rw [kind_end T _ hn] at h
 simp at h
theorem kind_lt {k i : Nat} (h : kindP T (nextP T i) = k + 1) : nextP T i < T.length := by
 apply Nat.lt_of_not_le
 intro hn
 rw [kind_end T _ hn] at h
 simp at h
def Adv (f : Nat → St) (c : Nat) : Prop := ∀ i, i ≤ T.length → i ≤ (f i).2 ∧ (f i).2 ≤ T.length ∧ (f i).1.length ≤ 2 * ((f i).2 - i) + c
variable {s T b}
theorem Adv.mono {f : Nat → St} {c d : Nat} (h : Adv T f c) (hd : c ≤ d) : Adv T f d := fun i hi => by have := h i hi; omega
theorem Adv.thn {f g : Nat → St} {c d : Nat} (h : Adv T f c) (hg : Adv T g d) : Adv T (fun i => thn (f i) g) (c + d) := fun i hi => by
 have h1 := h i hi
 have h2 := hg (f i).2 h1.2.1
 unfold Tr.thn
 simp only [List.length_append]
 omega
theorem Adv.one {f : Nat → PT × Nat} (h : ∀ i, i ≤ T.length → i ≤ (f i).2 ∧ (f i).2 ≤ T.length) : Adv T (fun i => oneP (f i)) 1 := fun i hi => by
 have := h i hi
 unfold oneP
 simp only [List.length_cons, List.length_nil]
 omega
theorem Adv.ite {f g : Nat → St} {c : Nat} {p : Nat → Bool} (h : Adv T f c) (hg : Adv T g c) : Adv T (fun i => if p i then f i else g i) c := fun i hi => by
 dsimp only
 split
 ·exact h i hi
 ·exact hg i hi
variable (s T b)
theorem take_len (i : Nat) (h : i ≤ T.length) : (takeP s T b i).1.length = toP T i - i := by
 have h1 := to_le T i
 have h2 := to_ge T i h
 unfold takeP
 simp only [List.length_map, List.length_take, List.length_drop]
 omega
theorem take_adv : Adv T (takeP s T b) 0 := fun i hi => by
 have h1 := take_len s T b i hi
 have h2 := to_ge T i hi
 have h3 := to_le T i
 have h4 : (takeP s T b i).2 = toP T i := rfl
 omega
theorem miss_adv (w : List UInt8) : Adv T (missP s T b w) 1 := fun i hi => ⟨Nat.le_refl _, hi, by unfold missP; simp⟩
theorem want_adv (w : List UInt8) : Adv T (wantP s T b w) 1 := fun i hi => by
 unfold wantP
 split
 ·exact (take_adv s T b).mono (Nat.zero_le _) i hi
 ·exact miss_adv s T b w i hi
theorem name_adv : Adv T (nameP s T b) 1 := fun i hi => by
 unfold nameP
 split
 ·exact (take_adv s T b).mono (Nat.zero_le _) i hi
 ·exact miss_adv s T b sName i hi
def roundP (one : Nat → St) (st : St) : St := thn (thn st (takeP s T b)) one
theorem round_adv {one : Nat → St} (ho : Adv T one 1) (st : St) (h : st.2 ≤ T.length) (hn : nextP T st.2 < T.length) :
  st.2 < (roundP s T b one st).2 ∧ (roundP s T b one st).2 ≤ T.length ∧ (roundP s T b one st).1.length ≤ st.1.length + 2 * ((roundP s T b one st).2 - st.2) := by
 have h1 := take_adv s T b st.2 h
 have h2 := ho (takeP s T b st.2).2 h1.2.1
 have h3 := to_gt T st.2 hn
 have h4 : (takeP s T b st.2).2 = toP T st.2 := rfl
 have h5 := take_len s T b st.2 h
 unfold roundP Tr.thn
 simp only [List.length_append]
 omega
theorem many_succ (one : Nat → St) (f : Nat) (st : St) : manyP s T b one (f + 1) st = if isP s T [[44]] st.2 then manyP s T b one f (roundP s T b one st) else st := rfl
theorem many_fuel {one : Nat → St} (ho : Adv T one 1) : ∀ (f g : Nat) (st : St), st.2 ≤ T.length → T.length + 1 ≤ f + st.2 → T.length + 1 ≤ g + st.2 → manyP s T b one f st = manyP s T b one g st
 | 0, _, st, h, h1, _ => by omega
 | f + 1, 0, st, h, _, h2 => by omega
 | f + 1, g + 1, st, h, h1, h2 => by
  rw [many_succ, many_succ]
  split
  ·rename_i hi
   have h3 := round_adv s T b ho st h (is_lt s T hi)
   exact many_fuel ho f g _ h3.2.1 (by omega) (by omega)
  ·rfl
theorem many_step {one : Nat → St} (ho : Adv T one 1) (st : St) (h : st.2 ≤ T.length) (hi : isP s T [[44]] st.2 = true) : manyP s T b one (T.length + 1) st = manyP s T b one (T.length + 1) (roundP s T b one st) := by
 rw [many_succ, if_pos hi]
 have h3 := round_adv s T b ho st h (is_lt s T hi)
 exact many_fuel s T b ho _ _ _ h3.2.1 (by omega) (by omega)
theorem many_stop (one : Nat → St) (st : St) (hi : isP s T [[44]] st.2 = false) : manyP s T b one (T.length + 1) st = st := by rw [many_succ, if_neg (by rw [hi]; simp)]
theorem many_adv {one : Nat → St} (ho : Adv T one 1) : ∀ (f : Nat) (st : St), st.2 ≤ T.length → st.2 ≤ (manyP s T b one f st).2 ∧ (manyP s T b one f st).2 ≤ T.length ∧ (manyP s T b one f st).1.length ≤ st.1.length + 2 * ((manyP s T b one f st).2 - st.2)
 | 0, st, h => ⟨Nat.le_refl _, h, by unfold manyP; omega⟩
 | f + 1, st, h => by
  rw [many_succ]
  split
  ·rename_i hi
   have h3 := round_adv s T b ho st h (is_lt s T hi)
   have h4 := many_adv ho f _ h3.2.1
   omega
  ·exact ⟨Nat.le_refl _, h, by omega⟩
theorem many_advf {f : Nat → St} {one : Nat → St} {c : Nat} (hf : Adv T f c) (ho : Adv T one 1) : Adv T (fun i => manyP s T b one (T.length + 1) (f i)) c := fun i hi => by
 have h1 := hf i hi
 have h2 := many_adv s T b ho (T.length + 1) (f i) h1.2.1
 dsimp only
 omega
def Goes (f : Nat → PT × Nat) : Prop := ∀ i, i ≤ T.length → i ≤ (f i).2 ∧ (f i).2 ≤ T.length
theorem br_goes {f : Nat → St} {c kind : Nat} (h : Adv T f c) : Goes T (fun i => brP s T b kind i (f i)) := fun i hi => by
 have := h i hi
 exact ⟨this.1, this.2.1⟩
theorem params_goes : Goes T (paramsP s T b) := by
 have h1 := want_adv s T b [40]
 have h2 := many_advf s T b (h1.thn (name_adv s T b)) (name_adv s T b)
 exact br_goes s T b (kind := 6) (((h1.mono (by omega)).ite (p := fun i => isP s T [[41]] (wantP s T b [40] i).2) h2).thn (want_adv s T b [41]))
theorem list_goes {e : Nat → St} (he : Adv T e 1) (kind : Nat) (shut : List UInt8) : Goes T (listP s T b e kind shut) := by
 have h1 := take_adv s T b
 have h2 := many_advf s T b (h1.thn he) he
 exact br_goes s T b (kind := kind) (((h1.mono (by omega)).ite (p := fun i => isP s T [shut] (takeP s T b i).2) h2).thn (want_adv s T b shut))
theorem part_goes {e : Nat → St} (he : Adv T e 1) : Goes T (partP s T b e) := fun i hi => by
 unfold partP
 split
 ·exact br_goes s T b (take_adv s T b) i hi
 split
 ·exact br_goes s T b (kind := 14) (((take_adv s T b).thn he).thn (want_adv s T b [41])) i hi
 split
 ·exact list_goes s T b he 13 [93] i hi
 ·exact ⟨Nat.le_refl _, hi⟩
def callR (e : Nat → St) (r : PT × Nat) : PT × Nat := (.branch 11 r.1.from_ [r.1, (listP s T b e 12 [41] r.2).1], (listP s T b e 12 [41] r.2).2)
theorem list_gt {e : Nat → St} (he : Adv T e 1) (kind : Nat) (shut : List UInt8) (i : Nat) (hi : i ≤ T.length) (hn : nextP T i < T.length) : i < (listP s T b e kind shut i).2 := by
 have h0 := to_gt T i hn
 have h4 : (takeP s T b i).2 = toP T i := rfl
 have h1 := take_adv s T b i hi
 have h2 := he _ h1.2.1
 have h3 := many_adv s T b he (T.length + 1) (thn (takeP s T b i) e) h2.2.1
 unfold listP brP
 simp only [thn] at *
 split
 ·have := want_adv s T b shut _ h1.2.1
  omega
 ·have := want_adv s T b shut _ h3.2.1
  omega
theorem calls_succ (e : Nat → St) (f : Nat) (r : PT × Nat) : callsP s T b e (f + 1) r = if isP s T [[40]] r.2 then callsP s T b e f (callR s T b e r) else r := rfl
theorem calls_fuel {e : Nat → St} (he : Adv T e 1) : ∀ (f g : Nat) (r : PT × Nat), r.2 ≤ T.length → T.length + 1 ≤ f + r.2 → T.length + 1 ≤ g + r.2 → callsP s T b e f r = callsP s T b e g r
 | 0, _, r, h, h1, _ => by omega
 | f + 1, 0, r, h, _, h2 => by omega
 | f + 1, g + 1, r, h, h1, h2 => by
  rw [calls_succ, calls_succ]
  split
  ·rename_i hi
   have h3 := list_gt s T b he 12 [41] r.2 h (is_lt s T hi)
   have h4 := list_goes s T b he 12 [41] r.2 h
   have h5 : (callR s T b e r).2 = (listP s T b e 12 [41] r.2).2 := rfl
   exact calls_fuel he f g _ (by omega) (by omega) (by omega)
  ·rfl
theorem calls_step {e : Nat → St} (he : Adv T e 1) (r : PT × Nat) (h : r.2 ≤ T.length) (hi : isP s T [[40]] r.2 = true) : callsP s T b e (T.length + 1) r = callsP s T b e (T.length + 1) (callR s T b e r) := by
 rw [calls_succ, if_pos hi]
 have h3 := list_gt s T b he 12 [41] r.2 h (is_lt s T hi)
 have h4 := list_goes s T b he 12 [41] r.2 h
 have h5 : (callR s T b e r).2 = (listP s T b e 12 [41] r.2).2 := rfl
 exact calls_fuel s T b he _ _ _ (by omega) (by omega) (by omega)
theorem calls_stop (e : Nat → St) (r : PT × Nat) (hi : isP s T [[40]] r.2 = false) : callsP s T b e (T.length + 1) r = r := by rw [calls_succ, if_neg (by rw [hi]; simp)]
theorem calls_goes {e : Nat → St} (he : Adv T e 1) : ∀ (f : Nat) (r : PT × Nat), r.2 ≤ T.length → r.2 ≤ (callsP s T b e f r).2 ∧ (callsP s T b e f r).2 ≤ T.length
 | 0, r, h => ⟨Nat.le_refl _, h⟩
 | f + 1, r, h => by
  rw [calls_succ]
  split
  ·have h4 := list_goes s T b he 12 [41] r.2 h
   have h5 : (callR s T b e r).2 = (listP s T b e 12 [41] r.2).2 := rfl
   have := calls_goes he f (callR s T b e r) (by omega)
   omega
  ·exact ⟨Nat.le_refl _, h⟩
theorem call_goes {e : Nat → St} (he : Adv T e 1) : Goes T (callP s T b e) := fun i hi => by
 have h1 := part_goes s T b he i hi
 have h2 := calls_goes s T b he (T.length + 1) _ h1.2
 unfold callP
 omega
theorem bin_goes {one : Nat → PT × Nat} (ho : Goes T one) (r : PT × Nat) (h : r.2 ≤ T.length) : r.2 ≤ (binP s T b one r).2 ∧ (binP s T b one r).2 ≤ T.length := by
 have h1 := take_adv s T b r.2 h
 have h2 := ho _ h1.2.1
 have h5 : (binP s T b one r).2 = (one (takeP s T b r.2).2).2 := rfl
 omega
theorem bin_gt {one : Nat → PT × Nat} (ho : Goes T one) (r : PT × Nat) (h : r.2 ≤ T.length) (hn : nextP T r.2 < T.length) : r.2 < (binP s T b one r).2 := by
 have h1 := take_adv s T b r.2 h
 have h2 := ho _ h1.2.1
 have h3 := to_gt T r.2 hn
 have h4 : (takeP s T b r.2).2 = toP T r.2 := rfl
 have h5 : (binP s T b one r).2 = (one (takeP s T b r.2).2).2 := rfl
 omega
theorem rows_succ (one : Nat → PT × Nat) (signs : List (List UInt8)) (f : Nat) (r : PT × Nat) : rowsP s T b one signs (f + 1) r = if isP s T signs r.2 then rowsP s T b one signs f (binP s T b one r) else r := rfl
theorem rows_fuel {one : Nat → PT × Nat} (ho : Goes T one) (signs : List (List UInt8)) : ∀ (f g : Nat) (r : PT × Nat), r.2 ≤ T.length → T.length + 1 ≤ f + r.2 → T.length + 1 ≤ g + r.2 → rowsP s T b one signs f r = rowsP s T b one signs g r
 | 0, _, r, h, h1, _ => by omega
 | f + 1, 0, r, h, _, h2 => by omega
 | f + 1, g + 1, r, h, h1, h2 => by
  rw [rows_succ, rows_succ]
  split
  ·rename_i hi
   have h3 := bin_gt s T b ho r h (is_lt s T hi)
   have h4 := bin_goes s T b ho r h
   exact rows_fuel ho signs f g _ (by omega) (by omega) (by omega)
  ·rfl
theorem rows_step {one : Nat → PT × Nat} (ho : Goes T one) (signs : List (List UInt8)) (r : PT × Nat) (h : r.2 ≤ T.length) (hi : isP s T signs r.2 = true) : rowsP s T b one signs (T.length + 1) r = rowsP s T b one signs (T.length + 1) (binP s T b one r) := by
 rw [rows_succ, if_pos hi]
 have h3 := bin_gt s T b ho r h (is_lt s T hi)
 have h4 := bin_goes s T b ho r h
 exact rows_fuel s T b ho signs _ _ _ (by omega) (by omega) (by omega)
theorem rows_stop (one : Nat → PT × Nat) (signs : List (List UInt8)) (r : PT × Nat) (hi : isP s T signs r.2 = false) : rowsP s T b one signs (T.length + 1) r = r := by rw [rows_succ, if_neg (by rw [hi]; simp)]
theorem rows_goes {one : Nat → PT × Nat} (ho : Goes T one) (signs : List (List UInt8)) : ∀ (f : Nat) (r : PT × Nat), r.2 ≤ T.length → r.2 ≤ (rowsP s T b one signs f r).2 ∧ (rowsP s T b one signs f r).2 ≤ T.length
 | 0, r, h => ⟨Nat.le_refl _, h⟩
 | f + 1, r, h => by
  rw [rows_succ]
  split
  ·have h4 := bin_goes s T b ho r h
   have := rows_goes ho signs f _ h4.2
   omega
  ·exact ⟨Nat.le_refl _, h⟩
theorem row_goes {one : Nat → PT × Nat} (ho : Goes T one) (signs : List (List UInt8)) : Goes T (rowP s T b one signs) := fun i hi => by
 have h1 := ho i hi
 have h2 := rows_goes s T b ho signs (T.length + 1) _ h1.2
 unfold rowP
 omega
theorem product_goes {e : Nat → St} (he : Adv T e 1) : Goes T (productP s T b e) := row_goes s T b (call_goes s T b he) _
theorem sum_goes {e : Nat → St} (he : Adv T e 1) : Goes T (sumP s T b e) := row_goes s T b (product_goes s T b he) _
theorem comp_goes {e : Nat → St} (he : Adv T e 1) : Goes T (compP s T b e) := fun i hi => by
 have h1 := sum_goes s T b he i hi
 unfold compP
 split
 ·have := bin_goes s T b (sum_goes s T b he) (sumP s T b e i) h1.2
  omega
 ·exact h1
theorem expr_goes : ∀ f, Goes T (exprP s T b f)
 | 0 => fun i hi => ⟨Nat.le_refl _, hi⟩
 | f + 1 => fun i hi => by
  have he : Adv T (fun i => oneP (exprP s T b f i)) 1 := Adv.one (expr_goes f)
  have hp : Adv T (fun i => oneP (paramsP s T b i)) 1 := Adv.one (params_goes s T b)
  have ht := take_adv s T b
  rw [exprP]
  split
  ·exact br_goes s T b (kind := 7) (((((ht.thn (name_adv s T b)).thn (want_adv s T b [61])).thn he).thn (want_adv s T b sIn)).thn he) i hi
  split
  ·exact br_goes s T b (kind := 8) (((((ht.thn he).thn (want_adv s T b sThen)).thn he).thn (want_adv s T b sElse)).thn he) i hi
  split
  ·exact br_goes s T b (kind := 9) (((ht.thn hp).thn (want_adv s T b [61, 62])).thn he) i hi
  ·exact comp_goes s T b he i hi
theorem expr_adv (f : Nat) : Adv T (fun i => oneP (exprP s T b f i)) 1 := Adv.one (expr_goes s T b f)
theorem pub_adv : Adv T (pubP s T b) 0 := fun i hi => by
 unfold pubP
 split
 ·exact take_adv s T b i hi
 ·exact ⟨Nat.le_refl _, hi, by simp⟩
theorem junks_succ (f : Nat) (last : Bool) (st : St) : junksP s T b (f + 1) last st = if last = false ∧ nextP T st.2 < T.length ∧ startP s T st.2 = false then junksP s T b f (isP s T [[59]] st.2) (thn st (takeP s T b)) else st := rfl
theorem take_st (st : St) (h : st.2 ≤ T.length) (hn : nextP T st.2 < T.length) : st.2 < (thn st (takeP s T b)).2 ∧ (thn st (takeP s T b)).2 ≤ T.length ∧ (thn st (takeP s T b)).1.length = st.1.length + ((thn st (takeP s T b)).2 - st.2) := by
 have h1 := take_len s T b st.2 h
 have h2 := to_gt T st.2 hn
 have h3 := to_le T st.2
 have h4 : (thn st (takeP s T b)).2 = toP T st.2 := rfl
 unfold thn
 simp only [List.length_append]
 rw [h1]
 have h5 : (takeP s T b st.2).2 = toP T st.2 := rfl
 omega
theorem junks_fuel : ∀ (f g : Nat) (last : Bool) (st : St), st.2 ≤ T.length → T.length + 1 ≤ f + st.2 → T.length + 1 ≤ g + st.2 → junksP s T b f last st = junksP s T b g last st
 | 0, _, _, st, h, h1, _ => by omega
 | f + 1, 0, _, st, h, _, h2 => by omega
 | f + 1, g + 1, last, st, h, h1, h2 => by
  rw [junks_succ, junks_succ]
  split
  ·rename_i hi
   have h3 := take_st s T b st h hi.2.1
   exact junks_fuel f g _ _ h3.2.1 (by omega) (by omega)
  ·rfl
theorem junks_step (last : Bool) (st : St) (h : st.2 ≤ T.length) (hi : last = false ∧ nextP T st.2 < T.length ∧ startP s T st.2 = false) : junksP s T b (T.length + 1) last st = junksP s T b (T.length + 1) (isP s T [[59]] st.2) (thn st (takeP s T b)) := by
 rw [junks_succ, if_pos hi]
 have h3 := take_st s T b st h hi.2.1
 exact junks_fuel s T b _ _ _ _ h3.2.1 (by omega) (by omega)
theorem junks_stop (last : Bool) (st : St) (hi : ¬ (last = false ∧ nextP T st.2 < T.length ∧ startP s T st.2 = false)) : junksP s T b (T.length + 1) last st = st := by rw [junks_succ, if_neg hi]
theorem junks_adv : ∀ (f : Nat) (last : Bool) (st : St), st.2 ≤ T.length → st.2 ≤ (junksP s T b f last st).2 ∧ (junksP s T b f last st).2 ≤ T.length ∧ (junksP s T b f last st).1.length = st.1.length + ((junksP s T b f last st).2 - st.2)
 | 0, _, st, h => ⟨Nat.le_refl _, h, by unfold junksP; omega⟩
 | f + 1, last, st, h => by
  rw [junks_succ]
  split
  ·rename_i hi
   have h3 := take_st s T b st h hi.2.1
   have h4 := junks_adv f (isP s T [[59]] st.2) _ h3.2.1
   omega
  ·exact ⟨Nat.le_refl _, h, by omega⟩
end
def StOk (T : List (Nat × Nat × Nat)) (i c : Nat) (st : St) : Prop := i ≤ st.2 ∧ st.2 ≤ T.length ∧ st.1.length ≤ 2 * (st.2 - i) + c
section
variable {T : List (Nat × Nat × Nat)} {i c d : Nat} {st : St} {f : Nat → St}
theorem StOk.thn (h : StOk T i c st) (hf : Adv T f d) : StOk T i (c + d) (thn st f) := by
 have h1 := hf st.2 h.2.1
 obtain ⟨a, b, e⟩ := h
 unfold StOk Tr.thn
 simp only [List.length_append]
 omega
theorem StOk.mono (h : StOk T i c st) (hd : c ≤ d) : StOk T i d st := ⟨h.1, h.2.1, by have := h.2.2; omega⟩
theorem StOk.of (h : Adv T f c) (hi : i ≤ T.length) : StOk T i c (f i) := h i hi
theorem StOk.ite {p : Bool} {u : St} (h : StOk T i c st) (hu : StOk T i c u) : StOk T i c (if p then st else u) := by
 split
 ·exact h
 ·exact hu
end
section
variable (s : List UInt8) (T : List (Nat × Nat × Nat)) (b : Nat)
theorem use_ok {i c : Nat} {st : St} (h : StOk T i c st) : StOk T i (c + 6) (useP s T b st) := by
 unfold useP
 have h4 := (((h.thn (want_adv s T b sUse)).thn (name_adv s T b)).thn (want_adv s T b [46])).thn (name_adv s T b)
 have h5 := (h4.thn (take_adv s T b)).thn (name_adv s T b)
 exact ((h5.ite (h4.mono (by omega))).thn (want_adv s T b [59])).mono (by omega)
theorem def_ok {i c : Nat} {st : St} (h : StOk T i c st) : StOk T i (c + 6) (defP s T b st) := by
 unfold defP
 have h4 := (h.thn (want_adv s T b sDef)).thn (name_adv s T b)
 have h5 := h4.thn (Adv.one (params_goes s T b))
 exact ((((h5.ite (h4.mono (by omega))).thn (want_adv s T b [61])).thn (Adv.one (expr_goes s T b 65))).thn (want_adv s T b [59])).mono (by omega)
theorem want_gt {w : List UInt8} {i : Nat} (h : isP s T [w] i = true) : i < (wantP s T b w i).2 := by
 unfold wantP
 rw [if_pos h]
 exact to_gt T i (is_lt s T h)
theorem start_ways {i : Nat} (h : startP s T i = true) : isP s T [sPub] i = true ∨ isP s T [sUse] i = true ∨ (isP s T [sPub] i = false ∧ isP s T [sUse] i = false ∧ isP s T [sDef] i = true) := by
 unfold startP isP at *
 simp only [Bool.and_eq_true] at h
 obtain ⟨h1, h2⟩ := h
 rw [h1]
 simp only [Bool.true_and]
 have h2 : textP s T (nextP T i) ∈ [sUse, sPub, sDef] := by simpa [List.contains_iff_mem] using h2
 simp only [List.mem_cons, List.mem_nil_iff, or_false] at h2
 rcases h2 with h2 | h2 | h2 <;> rw [h2] <;> decide
theorem item_goes (i : Nat) (h : i ≤ T.length) : i ≤ (itemP s T b i).2 ∧ (itemP s T b i).2 ≤ T.length := by
 have h0 := StOk.of (pub_adv s T b) h
 unfold itemP
 split
 ·have := use_ok s T b h0
  exact ⟨this.1, this.2.1⟩
 ·have := def_ok s T b h0
  exact ⟨this.1, this.2.1⟩
theorem StOk.self {T : List (Nat × Nat × Nat)} {st : St} (h : st.2 ≤ T.length) : StOk T st.2 st.1.length st := ⟨Nat.le_refl _, h, by omega⟩
theorem use_ge {st : St} (h : st.2 ≤ T.length) : (thn st (wantP s T b sUse)).2 ≤ (useP s T b st).2 := by
 have h0 : (thn st (wantP s T b sUse)).2 ≤ T.length := (want_adv s T b sUse st.2 h).2.1
 unfold useP
 have h4 := (((StOk.self h0).thn (name_adv s T b)).thn (want_adv s T b [46])).thn (name_adv s T b)
 have h5 := (h4.thn (take_adv s T b)).thn (name_adv s T b)
 exact ((h5.ite (p := isP s T [sAs] (thn (thn (thn (thn st (wantP s T b sUse)) (nameP s T b)) (wantP s T b [46])) (nameP s T b)).2) (h4.mono (by omega))).thn (want_adv s T b [59])).1
theorem def_ge {st : St} (h : st.2 ≤ T.length) : (thn st (wantP s T b sDef)).2 ≤ (defP s T b st).2 := by
 have h0 : (thn st (wantP s T b sDef)).2 ≤ T.length := (want_adv s T b sDef st.2 h).2.1
 unfold defP
 have h4 := (StOk.self h0).thn (name_adv s T b)
 have h5 := h4.thn (Adv.one (params_goes s T b))
 exact ((((h5.ite (p := isP s T [[40]] (thn (thn st (wantP s T b sDef)) (nameP s T b)).2) (h4.mono (by omega))).thn (want_adv s T b [61])).thn (Adv.one (expr_goes s T b 65))).thn (want_adv s T b [59])).1
theorem item_gt (i : Nat) (h : i ≤ T.length) (hs : startP s T i = true) : i < (itemP s T b i).2 := by
 have h0 := StOk.of (pub_adv s T b) h
 have hu0 := use_ge s T b h0.2.1
 have hd0 := def_ge s T b h0.2.1
 have hu1 : (thn (pubP s T b i) (wantP s T b sUse)).2 = (wantP s T b sUse (pubP s T b i).2).2 := rfl
 have hd1 : (thn (pubP s T b i) (wantP s T b sDef)).2 = (wantP s T b sDef (pubP s T b i).2).2 := rfl
 have hu2 := (want_adv s T b sUse (pubP s T b i).2 h0.2.1).1
 have hd2 := (want_adv s T b sDef (pubP s T b i).2 h0.2.1).1
 have e1 : (brP s T b 3 i (useP s T b (pubP s T b i))).2 = (useP s T b (pubP s T b i)).2 := rfl
 have e2 : (brP s T b 4 i (defP s T b (pubP s T b i))).2 = (defP s T b (pubP s T b i)).2 := rfl
 by_cases hp : isP s T [sPub] i = true
 ·have h1 : i < (pubP s T b i).2 := by
   unfold pubP
   rw [if_pos hp]
   exact to_gt T i (is_lt s T hp)
  unfold itemP
  split
  ·omega
  ·omega
 ·have hpe : pubP s T b i = ([], i) := by unfold pubP; rw [if_neg hp]
  have hpi : (pubP s T b i).2 = i := by rw [hpe]
  rcases start_ways s T hs with hp' | hu | ⟨_, hu, hd⟩
  ·exact absurd hp' hp
  ·have hu' : isP s T [sUse] (pubP s T b i).2 = true := by rw [hpi]; exact hu
   unfold itemP
   rw [if_pos hu']
   have := want_gt s T b hu'
   omega
  ·have hu' : ¬ isP s T [sUse] (pubP s T b i).2 = true := by rw [hpi, hu]; simp
   have hd' : isP s T [sDef] (pubP s T b i).2 = true := by rw [hpi]; exact hd
   unfold itemP
   rw [if_neg hu']
   have := want_gt s T b hd'
   omega
theorem junk_goes (i : Nat) (h : i ≤ T.length) : i ≤ (junkP s T b i).2 ∧ (junkP s T b i).2 ≤ T.length := by
 have := junks_adv s T b (T.length + 1) false ([], i) h
 exact ⟨this.1, this.2.1⟩
theorem junk_gt (i : Nat) (h : i ≤ T.length) (hn : nextP T i < T.length) (hs : startP s T i = false) : i < (junkP s T b i).2 := by
 have h1 := junks_step s T b false ([], i) h ⟨rfl, hn, hs⟩
 have h2 := take_st s T b ([], i) h hn
 have h3 := junks_adv s T b (T.length + 1) (isP s T [[59]] i) (thn ([], i) (takeP s T b)) h2.2.1
 have e : (junkP s T b i).2 = (junksP s T b (T.length + 1) false ([], i)).2 := rfl
 rw [h1] at e
 dsimp only at *
 omega
theorem kid_goes (i : Nat) (h : i ≤ T.length) : i ≤ (kidP s T i).2 ∧ (kidP s T i).2 ≤ T.length := by
 unfold kidP
 split
 ·exact item_goes s T _ i h
 ·exact junk_goes s T _ i h
theorem kid_gt (i : Nat) (h : i ≤ T.length) (hn : nextP T i < T.length) : i < (kidP s T i).2 := by
 unfold kidP
 split
 ·rename_i hs; exact item_gt s T _ i h hs
 ·rename_i hs; exact junk_gt s T _ i h hn (by simpa using hs)
def kdP (i : Nat) : Kd := ⟨(kidP s T i).1, absP s T i, i, (kidP s T i).2⟩
theorem kids_succ (f i : Nat) : kidsP s T (f + 1) i = if nextP T i < T.length then (kdP s T i :: (kidsP s T f (kidP s T i).2).1, (kidsP s T f (kidP s T i).2).2) else ([], i) := rfl
theorem kids_fuel : ∀ (f g i : Nat), i ≤ T.length → T.length + 1 ≤ f + i → T.length + 1 ≤ g + i → kidsP s T f i = kidsP s T g i
 | 0, _, i, h, h1, _ => by omega
 | f + 1, 0, i, h, _, h2 => by omega
 | f + 1, g + 1, i, h, h1, h2 => by
  rw [kids_succ, kids_succ]
  split
  ·rename_i hn
   have h3 := kid_gt s T i h hn
   have h4 := kid_goes s T i h
   rw [kids_fuel f g _ h4.2 (by omega) (by omega)]
  ·rfl
theorem kids_step (i : Nat) (h : i ≤ T.length) (hn : nextP T i < T.length) : kidsP s T (T.length + 1) i = (kdP s T i :: (kidsP s T (T.length + 1) (kidP s T i).2).1, (kidsP s T (T.length + 1) (kidP s T i).2).2) := by
 rw [kids_succ, if_pos hn]
 have h3 := kid_gt s T i h hn
 have h4 := kid_goes s T i h
 rw [kids_fuel s T T.length (T.length + 1) _ h4.2 (by omega) (by omega)]
theorem kids_stop (i : Nat) (hn : ¬ nextP T i < T.length) : kidsP s T (T.length + 1) i = ([], i) := by rw [kids_succ, if_neg hn]
structure Good : Prop where
 in_ : ∀ t ∈ T, t.2.1 + t.2.2 ≤ s.length ∧ 1 ≤ t.1 ∧ t.1 ≤ 8
 up : ∀ i j, i ≤ j → absP s T i ≤ absP s T j
theorem Good.abs_le {s : List UInt8} {T : List (Nat × Nat × Nat)} (h : Good s T) (i : Nat) : absP s T i ≤ s.length := by
 have := h.up i (max i T.length) (by omega)
 rwa [abs_end s T (max i T.length) (by omega)] at this
end
end Go.Proofs.YtcjjfeephaddcaaGreatDoor.Tr
namespace Go.Proofs.YtcjjfeephaddcaaGreatDoor
structure Tr.Pl where
 end_ : Nat
 from_ : Int
 to_ : Int
 lacks : Bool
def Tr.joinP (s q : Tr.Pl) : Tr.Pl := ⟨q.end_, if s.from_ < 0 then q.from_ else s.from_, if s.to_ < q.to_ then q.to_ else s.to_, s.lacks || q.lacks⟩
mutual
def Tr.putP : Tr.PT → Nat → Tr.Pl
 | .leaf k t _, a => if k = 1 ∨ k = 2 then ⟨a + t.length, -1, -1, false⟩ else ⟨a + t.length, (a : Int), ((a + t.length : Nat) : Int), false⟩
 | .gap _ _ _, a => ⟨a, -1, -1, true⟩
 | .branch _ _ l, a => Tr.putsP l ⟨a, -1, -1, false⟩
def Tr.putsP : List Tr.PT → Tr.Pl → Tr.Pl
 | [], s => s
 | p :: l, s => Tr.putsP l (Tr.joinP s (Tr.putP p s.end_))
end
mutual
def Tr.wideP : Tr.PT → Nat
 | .leaf _ t _ => t.length
 | .gap _ _ _ => 0
 | .branch _ _ l => Tr.widesP l
def Tr.widesP : List Tr.PT → Nat
 | [] => 0
 | p :: l => Tr.wideP p + Tr.widesP l
end
mutual
def Tr.wfP : Tr.PT → Prop
 | .leaf _ _ _ => True
 | .gap _ _ _ => True
 | .branch k _ l => 2 ≤ k ∧ l.length ≤ 1000000000 ∧ Tr.wfsP l
def Tr.wfsP : List Tr.PT → Prop
 | [] => True
 | p :: l => Tr.wfP p ∧ Tr.wfsP l
end
mutual
theorem Tr.put_end : ∀ (p : Tr.PT) (a : Nat), (Tr.putP p a).end_ = a + Tr.wideP p
 | .leaf k t _, a => by unfold Tr.putP Tr.wideP; split <;> rfl
 | .gap _ _ _, a => by unfold Tr.putP Tr.wideP; rfl
 | .branch _ _ l, a => by unfold Tr.putP Tr.wideP; rw [Tr.puts_end l]
theorem Tr.puts_end : ∀ (l : List Tr.PT) (s : Tr.Pl), (Tr.putsP l s).end_ = s.end_ + Tr.widesP l
 | [], s => by unfold Tr.putsP Tr.widesP; rfl
 | p :: l, s => by
  unfold Tr.putsP Tr.widesP
  rw [Tr.puts_end l]
  have : (Tr.joinP s (Tr.putP p s.end_)).end_ = (Tr.putP p s.end_).end_ := rfl
  rw [this, Tr.put_end p]
  omega
end
theorem Tr.puts_app (l : List Tr.PT) (p : Tr.PT) (s : Tr.Pl) : Tr.putsP (l ++ [p]) s = Tr.joinP (Tr.putsP l s) (Tr.putP p (Tr.putsP l s).end_) := by
 induction l generalizing s with
 | nil => simp only [List.nil_append, Tr.putsP]
 | cons q l ih => simp only [List.cons_append, Tr.putsP, ih]
def Tr.Pl.In (q : Tr.Pl) (n : Int) : Prop := -1 ≤ q.from_ ∧ q.from_ ≤ n ∧ -1 ≤ q.to_ ∧ q.to_ ≤ n
theorem Tr.join_in {s q : Tr.Pl} {n : Int} (h : s.In n) (h' : q.In n) : (Tr.joinP s q).In n := by
 obtain ⟨a, b, c, d⟩ := h
 obtain ⟨a', b', c', d'⟩ := h'
 unfold Tr.joinP Tr.Pl.In
 dsimp only
 refine ⟨?_, ?_, ?_, ?_⟩ <;> split <;> assumption
mutual
theorem Tr.put_in : ∀ (p : Tr.PT) (a : Nat) (n : Int), ((a + Tr.wideP p : Nat) : Int) ≤ n → (Tr.putP p a).In n
 | .leaf k t _, a, n, h => by
  unfold Tr.wideP at h
  unfold Tr.putP Tr.Pl.In
  split <;> (dsimp only; omega)
 | .gap _ _ _, a, n, h => by
  unfold Tr.wideP at h
  unfold Tr.putP Tr.Pl.In
  dsimp only
  omega
 | .branch _ _ l, a, n, h => by
  unfold Tr.wideP at h
  unfold Tr.putP
  exact Tr.puts_in l _ n h (by unfold Tr.Pl.In; dsimp only; omega)
theorem Tr.puts_in : ∀ (l : List Tr.PT) (s : Tr.Pl) (n : Int), ((s.end_ + Tr.widesP l : Nat) : Int) ≤ n → s.In n → (Tr.putsP l s).In n
 | [], s, n, _, hs => by unfold Tr.putsP; exact hs
 | p :: l, s, n, h, hs => by
  unfold Tr.widesP at h
  unfold Tr.putsP
  have h1 := Tr.put_end p s.end_
  exact Tr.puts_in l _ n (by show (((Tr.putP p s.end_).end_ + _ : Nat) : Int) ≤ n; omega) (Tr.join_in hs (Tr.put_in p _ n (by omega)))
end
namespace Tr
mutual
def textOf : PT → List UInt8
 | .leaf _ t _ => t
 | .gap _ _ _ => []
 | .branch _ _ l => textsOf l
def textsOf : List PT → List UInt8
 | [] => []
 | p :: l => textOf p ++ textsOf l
end
mutual
theorem wide_text : ∀ p : PT, wideP p = (textOf p).length
 | .leaf _ _ _ => by unfold wideP textOf; rfl
 | .gap _ _ _ => by unfold wideP textOf; rfl
 | .branch _ _ l => by unfold wideP textOf; exact wides_text l
theorem wides_text : ∀ l : List PT, widesP l = (textsOf l).length
 | [] => by unfold widesP textsOf; rfl
 | p :: l => by unfold widesP textsOf; rw [List.length_append, wide_text p, wides_text l]
end
theorem texts_app (l m : List PT) : textsOf (l ++ m) = textsOf l ++ textsOf m := by
 induction l with
 | nil => simp [textsOf]
 | cons p l ih => simp only [List.cons_append, textsOf, ih, List.append_assoc]
theorem wfs_app (l m : List PT) : wfsP (l ++ m) ↔ wfsP l ∧ wfsP m := by
 induction l with
 | nil => simp [wfsP]
 | cons p l ih => simp only [List.cons_append, wfsP, ih, and_assoc]
section
variable (s : List UInt8) (T : List (Nat × Nat × Nat)) (b : Nat)
def sl (i j : Nat) : List UInt8 := (s.drop (absP s T i)).take (absP s T j - absP s T i)
theorem sl_self (i : Nat) : sl s T i i = [] := by unfold sl; rw [Nat.sub_self, List.take_zero]
structure Side : Prop where
 good : Good s T
 tile : ∀ k (h : k < T.length), T[k].2.1 + T[k].2.2 = absP s T (k + 1)
 first : absP s T 0 = 0
 few : T.length ≤ 400000000
variable {s T}
theorem sl_add (h : Good s T) {i j k : Nat} (hij : i ≤ j) (hjk : j ≤ k) : sl s T i j ++ sl s T j k = sl s T i k := by
 have h1 := h.up i j hij
 have h2 := h.up j k hjk
 unfold sl
 generalize absP s T i = x at *
 generalize absP s T j = y at *
 generalize absP s T k = z at *
 have e : z - x = (y - x) + (z - y) := by omega
 rw [e, List.take_add, List.drop_drop]
 congr 3
 omega
theorem sl_one (h : Side s T) {k : Nat} (hk : k < T.length) : subT s T[k] = sl s T k (k + 1) := by
 have h1 := h.tile k hk
 have h2 := abs_at s T k hk
 unfold subT sl
 rw [← h1, h2, Nat.add_sub_cancel_left]
theorem sl_len (h : Good s T) {i j : Nat} (hij : i ≤ j) : (sl s T i j).length = absP s T j - absP s T i := by
 have h1 := h.up i j hij
 have h2 := h.abs_le j
 unfold sl
 rw [List.length_take, List.length_drop]
 omega
structure Fine (s : List UInt8) (T : List (Nat × Nat × Nat)) (i c : Nat) (st : St) : Prop where
 ok : StOk T i c st
 text : textsOf st.1 = sl s T i st.2
 wf : wfsP st.1
structure FineF (s : List UInt8) (T : List (Nat × Nat × Nat)) (f : Nat → St) (c : Nat) : Prop where
 adv : Adv T f c
 fine : ∀ i, i ≤ T.length → textsOf (f i).1 = sl s T i (f i).2 ∧ wfsP (f i).1
theorem FineF.at_ {f : Nat → St} {c i : Nat} (h : FineF s T f c) (hi : i ≤ T.length) : Fine s T i c (f i) := ⟨StOk.of h.adv hi, (h.fine i hi).1, (h.fine i hi).2⟩
theorem FineF.of {f : Nat → St} {c : Nat} (h : ∀ i, i ≤ T.length → Fine s T i c (f i)) : FineF s T f c := ⟨fun i hi => (h i hi).ok, fun i hi => ⟨(h i hi).text, (h i hi).wf⟩⟩
theorem Fine.thn {i c d : Nat} {st : St} {f : Nat → St} (hS : Side s T) (h : Fine s T i c st) (hf : FineF s T f d) : Fine s T i (c + d) (thn st f) := by
 have h1 := hf.fine st.2 h.ok.2.1
 have h2 := (hf.adv st.2 h.ok.2.1).1
 refine ⟨h.ok.thn hf.adv, ?_, ?_⟩
 ·unfold Tr.thn
  dsimp only
  rw [texts_app, h.text, h1.1]
  exact sl_add hS.good h.ok.1 h2
 ·unfold Tr.thn
  exact (wfs_app _ _).2 ⟨h.wf, h1.2⟩
theorem Fine.mono {i c d : Nat} {st : St} (h : Fine s T i c st) (hd : c ≤ d) : Fine s T i d st := ⟨h.ok.mono hd, h.text, h.wf⟩
theorem Fine.ite {i c : Nat} {st u : St} {p : Bool} (h : Fine s T i c st) (hu : Fine s T i c u) : Fine s T i c (if p then st else u) := by
 split
 ·exact h
 ·exact hu
theorem Fine.nil {i : Nat} (hi : i ≤ T.length) : Fine s T i 0 ([], i) := ⟨⟨Nat.le_refl _, hi, by simp⟩, by rw [sl_self]; rfl, trivial⟩
theorem Fine.br {i c kind a : Nat} {st : St} (hS : Side s T) (h : Fine s T i c st) (hc : c ≤ 1000) (hk : 2 ≤ kind) : Fine s T i 1 ([.branch kind a st.1], st.2) := by
 refine ⟨⟨h.ok.1, h.ok.2.1, by simp⟩, ?_, ?_⟩
 ·simp only [textsOf, textOf, List.append_nil, h.text]
 ·have h1 := h.ok.2.2
  have h2 := h.ok.2.1
  have h3 := hS.few
  exact ⟨⟨hk, by omega, h.wf⟩, trivial⟩
variable (hS : Side s T)
include hS
theorem leaves_fine : ∀ (n i : Nat), i + n ≤ T.length → textsOf (((T.drop i).take n).map (leafP s b)) = sl s T i (i + n) ∧ wfsP (((T.drop i).take n).map (leafP s b))
 | 0, i, _ => by rw [List.take_zero, Nat.add_zero, sl_self]; exact ⟨rfl, trivial⟩
 | n + 1, i, h => by
  have ih := leaves_fine n (i + 1) (by omega)
  have hi : i < T.length := by omega
  rw [List.drop_eq_getElem_cons hi, List.take_succ_cons, List.map_cons]
  refine ⟨?_, trivial, ih.2⟩
  rw [show i + (n + 1) = (i + 1) + n by omega, ← sl_add hS.good (Nat.le_succ i) (by omega), ← sl_one hS hi]
  simp only [textsOf, ih.1]
  rfl
theorem take_fine : FineF s T (takeP s T b) 0 := ⟨take_adv s T b, fun i hi => by
 have h1 := to_ge T i hi
 have h2 := to_le T i
 have h := leaves_fine b hS (toP T i - i) i (by omega)
 rw [show i + (toP T i - i) = toP T i by omega] at h
 exact h⟩
omit hS in
theorem miss_fine (w : List UInt8) : FineF s T (missP s T b w) 1 := ⟨miss_adv s T b w, fun i hi => ⟨by unfold missP; rw [sl_self]; rfl, trivial, trivial⟩⟩
theorem want_fine (w : List UInt8) : FineF s T (wantP s T b w) 1 := FineF.of fun i hi => by
 unfold wantP
 exact (((take_fine b hS).at_ hi).mono (Nat.zero_le _)).ite ((miss_fine b w).at_ hi)
theorem name_fine : FineF s T (nameP s T b) 1 := FineF.of fun i hi => by
 unfold nameP
 exact (((take_fine b hS).at_ hi).mono (Nat.zero_le _)).ite ((miss_fine b sName).at_ hi)
theorem round_fine {one : Nat → St} (ho : FineF s T one 1) {i : Nat} {st : St} (h : Fine s T i 2 st) (hn : nextP T st.2 < T.length) : Fine s T i 2 (roundP s T b one st) := by
 have h1 := (h.thn hS (take_fine b hS)).thn hS ho
 have h2 := round_adv s T b ho.adv st h.ok.2.1 hn
 exact ⟨⟨h1.ok.1, h1.ok.2.1, by have := h.ok.2.2; have := h.ok.1; omega⟩, h1.text, h1.wf⟩
theorem many_fine {one : Nat → St} (ho : FineF s T one 1) {i : Nat} : ∀ (f : Nat) (st : St), Fine s T i 2 st → Fine s T i 2 (manyP s T b one f st)
 | 0, st, h => h
 | f + 1, st, h => by
  rw [many_succ]
  split
  ·rename_i hi
   exact many_fine ho f _ (round_fine b hS ho h (is_lt s T hi))
  ·exact h
def OneF (s : List UInt8) (T : List (Nat × Nat × Nat)) (f : Nat → PT × Nat) : Prop := FineF s T (fun i => oneP (f i)) 1
omit hS in
theorem OneF.of {f : Nat → PT × Nat} (h : ∀ i, i ≤ T.length → Fine s T i 1 (oneP (f i))) : OneF s T f := FineF.of h
theorem params_fine : OneF s T (paramsP s T b) := OneF.of fun i hi => by
 have h1 := (want_fine b hS [40]).at_ hi
 have h2 := many_fine b hS (name_fine b hS) (T.length + 1) _ (h1.thn hS (name_fine b hS))
 have h3 := ((h1.mono (by omega : 1 ≤ 2)).ite (p := isP s T [[41]] (wantP s T b [40] i).2) h2).thn hS (want_fine b hS [41])
 exact h3.br hS (by omega) (by omega)
theorem list_fine {e : Nat → St} (he : FineF s T e 1) (kind : Nat) (hk : 2 ≤ kind) (shut : List UInt8) : OneF s T (listP s T b e kind shut) := OneF.of fun i hi => by
 have h1 := (take_fine b hS).at_ hi
 have h2 := many_fine b hS he (T.length + 1) _ ((h1.thn hS he).mono (by omega))
 have h3 := ((h1.mono (by omega : 0 ≤ 2)).ite (p := isP s T [shut] (takeP s T b i).2) h2).thn hS (want_fine b hS shut)
 exact h3.br hS (by omega) hk
omit hS in
theorem leafK_ge (k : Nat) (t : List UInt8) (h : 0 < leafK k t) : 2 ≤ leafK k t := by
 unfold leafK at *
 repeat' split
 all_goals first | omega | simp_all
theorem part_fine {e : Nat → St} (he : FineF s T e 1) : OneF s T (partP s T b e) := OneF.of fun i hi => by
 unfold partP
 split
 ·rename_i h
  exact ((take_fine b hS).at_ hi).br hS (by omega) (leafK_ge _ _ h)
 split
 ·exact ((((take_fine b hS).at_ hi).thn hS he).thn hS (want_fine b hS [41])).br hS (by omega) (by omega)
 split
 ·exact (list_fine b hS he 13 (by omega) [93]).at_ hi
 ·exact ⟨⟨Nat.le_refl _, hi, by simp [oneP]⟩, by unfold oneP; rw [sl_self]; rfl, trivial, trivial⟩
omit hS in
theorem oneP_text {r : PT × Nat} {i : Nat} (h : Fine s T i 1 (oneP r)) : textOf r.1 = sl s T i r.2 ∧ wfP r.1 ∧ i ≤ r.2 ∧ r.2 ≤ T.length := by
 have h1 := h.text
 have h2 := h.wf
 simp only [oneP, textsOf, List.append_nil] at h1
 exact ⟨h1, h2.1, h.ok.1, h.ok.2.1⟩
omit hS in
theorem oneP_fine {r : PT × Nat} {i : Nat} (h1 : textOf r.1 = sl s T i r.2) (h2 : wfP r.1) (h3 : i ≤ r.2) (h4 : r.2 ≤ T.length) : Fine s T i 1 (oneP r) :=
 ⟨⟨h3, h4, by simp [oneP]⟩, by simp only [oneP, textsOf, List.append_nil, h1], h2, trivial⟩
theorem calls_fine {e : Nat → St} (he : FineF s T e 1) {i : Nat} : ∀ (f : Nat) (r : PT × Nat), Fine s T i 1 (oneP r) → Fine s T i 1 (oneP (callsP s T b e f r))
 | 0, r, h => h
 | f + 1, r, h => by
  rw [calls_succ]
  split
  ·refine calls_fine he f _ ?_
   have h2 := oneP_text ((list_fine b hS he 12 (by omega) [41]).at_ h.ok.2.1)
   obtain ⟨a1, a2, a3, a4⟩ := oneP_text h
   obtain ⟨b1, b2, b3, b4⟩ := h2
   have b1 : textOf (listP s T b e 12 [41] r.2).1 = sl s T r.2 (listP s T b e 12 [41] r.2).2 := b1
   have b3 : r.2 ≤ (listP s T b e 12 [41] r.2).2 := b3
   refine oneP_fine ?_ ?_ ?_ ?_
   ·simp only [callR, textOf, textsOf, List.append_nil, a1, b1]
    exact sl_add hS.good a3 b3
   ·unfold callR; exact ⟨by omega, by simp, a2, b2, trivial⟩
   ·unfold callR; dsimp only; omega
   ·exact b4
  ·exact h
theorem call_fine {e : Nat → St} (he : FineF s T e 1) : OneF s T (callP s T b e) := OneF.of fun _ hi => calls_fine b hS he _ _ ((part_fine b hS he).at_ hi)
theorem bin_fine {one : Nat → PT × Nat} (ho : OneF s T one) {i : Nat} {r : PT × Nat} (h : Fine s T i 1 (oneP r)) : Fine s T i 1 (oneP (binP s T b one r)) := by
 have h1 := (h.thn hS (take_fine b hS)).thn hS ho
 exact h1.br (kind := 10) (a := r.1.from_) hS (by omega) (by omega)
theorem rows_fine {one : Nat → PT × Nat} (ho : OneF s T one) (signs : List (List UInt8)) {i : Nat} : ∀ (f : Nat) (r : PT × Nat), Fine s T i 1 (oneP r) → Fine s T i 1 (oneP (rowsP s T b one signs f r))
 | 0, r, h => h
 | f + 1, r, h => by
  rw [rows_succ]
  split
  ·exact rows_fine ho signs f _ (bin_fine b hS ho h)
  ·exact h
theorem row_fine {one : Nat → PT × Nat} (ho : OneF s T one) (signs : List (List UInt8)) : OneF s T (rowP s T b one signs) := OneF.of fun _ hi => rows_fine b hS ho signs _ _ (ho.at_ hi)
theorem comp_fine {e : Nat → St} (he : FineF s T e 1) : OneF s T (compP s T b e) := OneF.of fun i hi => by
 have hs : OneF s T (sumP s T b e) := row_fine b hS (row_fine b hS (call_fine b hS he) _) _
 unfold compP
 split
 ·exact bin_fine b hS hs (hs.at_ hi)
 ·exact hs.at_ hi
theorem expr_fine : ∀ f, OneF s T (exprP s T b f)
 | 0 => OneF.of fun i hi => ⟨⟨Nat.le_refl _, hi, by simp [oneP]⟩, by unfold exprP oneP; rw [sl_self]; rfl, trivial, trivial⟩
 | f + 1 => OneF.of fun i hi => by
  have he := expr_fine f
  have ht := (take_fine b hS).at_ hi
  rw [exprP]
  split
  ·exact (((((ht.thn hS (name_fine b hS)).thn hS (want_fine b hS [61])).thn hS he).thn hS (want_fine b hS sIn)).thn hS he).br hS (by omega) (by omega)
  split
  ·exact (((((ht.thn hS he).thn hS (want_fine b hS sThen)).thn hS he).thn hS (want_fine b hS sElse)).thn hS he).br hS (by omega) (by omega)
  split
  ·exact (((ht.thn hS (params_fine b hS)).thn hS (want_fine b hS [61, 62])).thn hS he).br hS (by omega) (by omega)
  ·exact (comp_fine b hS he).at_ hi
theorem pub_fine : FineF s T (pubP s T b) 0 := FineF.of fun i hi => by
 unfold pubP
 exact ((take_fine b hS).at_ hi).ite (Fine.nil hi)
theorem use_fine {i c : Nat} {st : St} (h : Fine s T i c st) : Fine s T i (c + 6) (useP s T b st) := by
 unfold useP
 have h4 := (((h.thn hS (want_fine b hS sUse)).thn hS (name_fine b hS)).thn hS (want_fine b hS [46])).thn hS (name_fine b hS)
 have h5 := (h4.thn hS (take_fine b hS)).thn hS (name_fine b hS)
 exact ((h5.ite (h4.mono (by omega))).thn hS (want_fine b hS [59])).mono (by omega)
theorem def_fine {i c : Nat} {st : St} (h : Fine s T i c st) : Fine s T i (c + 6) (defP s T b st) := by
 unfold defP
 have h4 := (h.thn hS (want_fine b hS sDef)).thn hS (name_fine b hS)
 have h5 := h4.thn hS (params_fine b hS)
 exact ((((h5.ite (h4.mono (by omega))).thn hS (want_fine b hS [61])).thn hS (expr_fine b hS 65)).thn hS (want_fine b hS [59])).mono (by omega)
theorem item_fine : OneF s T (itemP s T b) := OneF.of fun i hi => by
 have h0 := (pub_fine b hS).at_ hi
 unfold itemP
 split
 ·exact (use_fine b hS h0).br hS (by omega) (by omega)
 ·exact (def_fine b hS h0).br hS (by omega) (by omega)
theorem junks_fine {i : Nat} : ∀ (f : Nat) (last : Bool) (st : St), Fine s T i 0 st → Fine s T i 0 (junksP s T b f last st)
 | 0, _, st, h => h
 | f + 1, last, st, h => by
  rw [junks_succ]
  split
  ·exact junks_fine f _ _ (h.thn hS (take_fine b hS))
  ·exact h
theorem junk_fine : OneF s T (junkP s T b) := OneF.of fun i hi => (junks_fine b hS _ _ _ (Fine.nil hi)).br hS (by omega) (by omega)
theorem kid_fine : OneF s T (kidP s T) := OneF.of fun i hi => by
 unfold kidP
 split
 ·exact (item_fine _ hS).at_ hi
 ·exact (junk_fine _ hS).at_ hi
end
end Tr
end Go.Proofs.YtcjjfeephaddcaaGreatDoor
namespace Go.Proofs.YtcjjfeephaddcaaGreatDoor.Sc
open Tr (PT)
structure Wd where
 text : List UInt8
 at_ : Nat
structure Us where
 file : Nat
 at_ : Nat
 as_ : Nat
 toFile : Int
 to_ : Int
 err : Nat
structure It where
 file : Nat
 base : Nat
 part : PT
 pub : Bool
 isDef : Bool
 name : Option Wd
 hasParams : Bool
 params : List (Option Wd)
 expr : PT
 has : Bool
 mo : Option Wd
 me : Option Wd
 al : Option Wd
def blankL : PT → Bool
 | .leaf k _ _ => k == 1 || k == 2
 | _ => false
def kidsOf : PT → List PT
 | .branch _ _ l => l
 | _ => []
def kindOf : PT → Nat
 | .branch k _ _ => k
 | _ => 0
def isBr : PT → Bool
 | .branch _ _ _ => true
 | _ => false
def isLeaf : PT → Bool
 | .leaf _ _ _ => true
 | _ => false
def senseL (l : List PT) : List PT := l.filter fun p => !blankL p
def senseP (p : PT) : List PT := senseL (kidsOf p)
def isExpr : PT → Bool
 | .leaf _ _ _ => false
 | .gap t _ _ => t == Tr.sExpr
 | .branch k _ _ => k != 6 && k != 12
def exprsL (l : List PT) : List PT := l.filter isExpr
def nonP : PT := .gap [] 0 false
def atP (l : List PT) (i : Nat) : PT := l[i]?.getD nonP
def nameL : PT → Option (Option (List UInt8 × Nat))
 | .leaf k t a => if k = 3 then some (some (t, a)) else none
 | .gap t _ _ => if t = Tr.sName then some none else none
 | .branch _ _ _ => none
def namesP (p : PT) : List (Option (List UInt8 × Nat)) := (kidsOf p).filterMap nameL
def wordOf (b : Nat) : PT → Option Wd
 | .leaf _ t a => some ⟨t, b + a⟩
 | _ => none
def wordsOf (b : Nat) (p : PT) : List (Option Wd) := (namesP p).map fun x => x.map fun y => ⟨y.1, b + y.2⟩
def isW (t : List UInt8) : PT → Bool
 | .leaf _ x _ => x == t
 | _ => false
def isPar (p : PT) : Bool := isBr p && kindOf p == 6
def bodyOf (p : PT) : List PT := if isW Tr.sPub (atP (senseP p) 0) then (senseP p).drop 1 else senseP p
def itemM (file : Nat) (k : Tr.Kd) : It :=
 let l := bodyOf k.part
 let w := fun i => wordOf k.base (atP l i)
 let d := kindOf k.part == 4
 let h := !d && isW Tr.sAs (atP l 4)
 let hp := d && isPar (atP l 2)
 { file := file, base := k.base, part := k.part, pub := isW Tr.sPub (atP (senseP k.part) 0), isDef := d, name := if d then w 1 else if h then w 5 else w 3, hasParams := hp, params := if hp then wordsOf k.base (atP l 2) else [], expr := if d then (if hp then atP l 4 else atP l 3) else nonP, has := h, mo := if d then none else w 1, me := if d then none else w 3, al := if h then w 5 else none }
def isItem (k : Tr.Kd) : Bool := kindOf k.part == 3 || kindOf k.part == 4
def itemsM (file : Nat) (ks : List Tr.Kd) : List It := (ks.filter isItem).map (itemM file)
def named (n : List UInt8) (x : It) : Bool := match x.name with
 | some w => w.text == n
 | none => false
def foundM (l : List It) (n : List UInt8) : Option Nat := l.findIdx? (named n)
def twiceM (l : List It) (k : Nat) : Bool := match (l[k]?).bind (·.name) with
 | some w => (l.take k).any (named w.text)
 | none => false
structure Wk where
 names : List (List UInt8)
 items : List (List It)
section
variable (W : Wk)
def fileM (x : It) : Option Nat := x.mo.bind fun m => W.names.findIdx? (· == m.text)
def itemsAt (f : Nat) : List It := (W.items[f]?).getD []
inductive Nx where
 | at_ (f k : Nat)
 | is (f a : Int) (e : Nat)
def stepF (x : It) (f : Nat) (n : List UInt8) : Nx :=
 match foundM (itemsAt W f) n with
 | none => .is (-1) (-1) 4
 | some k =>
  match (itemsAt W f)[k]? with
  | none => .is (-1) (-1) 4
  | some y =>
   if !y.pub && f != x.file then .is (-1) (-1) 6
   else if y.isDef then .is f (((y.name.map (·.at_)).getD 0 : Nat) : Int) 0
   else .at_ f k
def stepM (x : It) : Nx :=
 match fileM W x, x.me with
 | some f, some m => stepF W x f m.text
 | _, _ => .is (-1) (-1) 4
def targetM : Nat → List (Nat × Nat) → Nat × Nat → It → Int × Int × Nat
 | 0, _, _, _ => (-1, -1, 7)
 | n + 1, met, at_, x =>
  match stepM W x with
  | .is f a e => (f, a, e)
  | .at_ f k => if (met ++ [at_]).contains (f, k) then (-1, -1, 7) else
   match (itemsAt W f)[k]? with
   | some y => targetM n (met ++ [at_]) (f, k) y
   | none => (-1, -1, 7)
def manyM : Nat := (W.items.map List.length).sum
def standsM (f k : Nat) (x : It) : Int × Int × Nat := targetM W (manyM W + 1) [] (f, k) x
def nothingM (file at_ as_ e : Nat) : Us := ⟨file, at_, as_, -1, -1, e⟩
def itselfM (file at_ as_ : Nat) (twice : Bool) : Us := ⟨file, at_, as_, file, at_, if twice then 5 else 0⟩
def modM (x : It) (m : Wd) : Us := match fileM W x with
 | some g => ⟨x.file, m.at_, 3, g, -1, 0⟩
 | none => nothingM x.file m.at_ 3 4
def useM (f k : Nat) (x : It) : List Us :=
 x.mo.toList.map (modM W x) ++
 x.me.toList.map (fun m => ⟨x.file, m.at_, 4, (standsM W f k x).1, (standsM W f k x).2.1, if (standsM W f k x).2.2 = 0 ∧ x.has = false ∧ twiceM (itemsAt W f) k = true then 5 else (standsM W f k x).2.2⟩) ++
 x.al.toList.map (fun m => ⟨x.file, m.at_, 5, (standsM W f k x).1, (standsM W f k x).2.1, if twiceM (itemsAt W f) k then 5 else 0⟩)
def paramsM (file : Nat) : List (Option Wd) → List (Option Wd) → List Us
 | _, [] => []
 | ahead, none :: l => paramsM file (ahead ++ [none]) l
 | ahead, some w :: l => itselfM file w.at_ 1 (ahead.any fun v => match v with | some v => v.text == w.text | none => false) :: paramsM file (ahead ++ [some w]) l
abbrev Env := List (List UInt8 × Nat)
def innerM (l : List (Option Wd)) (e : Env) : Env := l.foldr (fun w e => match w with | some w => (w.text, w.at_) :: e | none => e) e
def findM (n : List UInt8) (e : Env) : Option Nat := (e.find? fun x => x.1 == n).map (·.2)
def varF (x : It) (t : List UInt8) (a : Nat) : Us :=
 match foundM (itemsAt W x.file) t with
 | none => nothingM x.file (x.base + a) 6 4
 | some k =>
  match (itemsAt W x.file)[k]? with
  | none => nothingM x.file (x.base + a) 6 4
  | some y =>
   if y.isDef then ⟨x.file, x.base + a, 6, x.file, ((y.name.map (·.at_)).getD 0 : Nat), 0⟩
   else ⟨x.file, x.base + a, 6, (standsM W x.file k y).1, (standsM W x.file k y).2.1, 0⟩
def varM (x : It) (e : Env) (t : List UInt8) (a : Nat) : Us :=
 match findM t e with
 | some to_ => ⟨x.file, x.base + a, 6, x.file, to_, 0⟩
 | none => varF W x t a
def leafOf : PT → List UInt8 × Nat
 | .leaf _ t a => (t, a)
 | _ => ([], 0)
def letM (b : Nat) (p : PT) : Option Wd := wordOf b (atP (senseP p) 1)
def visitM (x : It) (e : Env) (p : PT) : List Us :=
 if kindOf p = 7 then (letM x.base p).toList.map (fun w => itselfM x.file w.at_ 2 false)
 else if kindOf p = 9 then paramsM x.file [] (wordsOf x.base (atP (senseP p) 1))
 else if kindOf p = 18 then [varM W x e (leafOf (atP (senseP p) 0)).1 (leafOf (atP (senseP p) 0)).2]
 else []
def env1 (x : It) (e : Env) (p : PT) : Env := if kindOf p = 9 then innerM (wordsOf x.base (atP (senseP p) 1)) e else e
def env2 (x : It) (e : Env) (p : PT) : Env :=
 if kindOf p = 9 then innerM (wordsOf x.base (atP (senseP p) 1)) e
 else if kindOf p = 7 then (match letM x.base p with
  | some w => (w.text, w.at_) :: e
  | none => e)
 else e
mutual
def walkM (x : It) (e : Env) : PT → List Us
 | .leaf _ _ _ => []
 | .gap _ _ _ => []
 | .branch k a l => visitM W x e (.branch k a l) ++ walksM x (env1 x e (.branch k a l)) (env2 x e (.branch k a l)) l
def walksM (x : It) (e1 e2 : Env) : List PT → List Us
 | [] => []
 | p :: l => if isExpr p || kindOf p == 12 then walkM x e1 p ++ walksM x e2 e2 l else walksM x e1 e2 l
end
def defM (f k : Nat) (x : It) : List Us :=
 x.name.toList.map (fun w => itselfM x.file w.at_ 0 (twiceM (itemsAt W f) k)) ++ paramsM x.file [] x.params ++ walkM W x (innerM x.params []) x.expr
def itemUses (f k : Nat) (x : It) : List Us := if x.isDef then defM W f k x else useM W f k x
def fileUses (f : Nat) (l : List It) : List Us := (l.zipIdx.map fun y => itemUses W f y.2 y.1).flatten
def usesM : List Us := (W.items.zipIdx.map fun y => fileUses W y.2 y.1).flatten
end
def workM (l : List (List UInt8 × List Tr.Kd)) : Wk := ⟨l.map (·.1), l.zipIdx.map fun y => itemsM y.2 y.1.2⟩
end Go.Proofs.YtcjjfeephaddcaaGreatDoor.Sc
namespace Go.Proofs.YtcjjfeephaddcaaGreatDoor.Tr
mutual
def okP (b : Nat) : PT → Nat → Prop
 | .leaf _ _ x, a => b + x = a
 | .gap _ x _, a => b + x = a
 | .branch k x l, a => b + x = a ∧ oksP b l a ∧ (k = 5 → 0 ≤ (putP (.branch k x l) a).from_ ∧ (putP (.branch k x l) a).to_ = ((putP (.branch k x l) a).end_ : Int))
def oksP (b : Nat) : List PT → Nat → Prop
 | [], _ => True
 | p :: l, a => okP b p a ∧ oksP b l (putP p a).end_
end
theorem ok_from {b a : Nat} : ∀ {p : PT}, okP b p a → b + p.from_ = a
 | .leaf _ _ _, h => h
 | .gap _ _ _, h => h
 | .branch _ _ _, h => h.1
theorem oks_app {b : Nat} : ∀ (l m : List PT) (a : Nat), oksP b l a → oksP b m (a + widesP l) → oksP b (l ++ m) a
 | [], m, a, _, h => by simpa [widesP] using h
 | p :: l, m, a, h, hm => by
  unfold oksP at h
  simp only [List.cons_append, oksP]
  refine ⟨h.1, oks_app l m _ h.2 ?_⟩
  rw [put_end]
  unfold widesP at hm
  rwa [Nat.add_assoc]
end Go.Proofs.YtcjjfeephaddcaaGreatDoor.Tr
