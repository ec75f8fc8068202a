/-
  JOINED of the texts TA TB TC Base Txt Dec LM
-/
import Derived.Lib.RuneBytes
import Derived.Lib.Strings
import Derived.Test.YtalklmeejdmifaaGreatDoorRows
import Derived.WalkKit
import Derived.WalkSpells
import Derived.WalkLawsBesides
import Derived.Below
import Derived.Laws.OwnMore
import Derived.Deep.AppendLies
import Derived.Deep.Draws
import Derived.Lib.Hide
import Derived.Deep.QuietTactic
import Derived.BigQuiet
import Derived.IntWalk
import Derived.Deep.RegionHeld3
import Derived.Deep.DeepCutAuto
import Derived.Lib.IndexMore
namespace Go.Proofs.YtalklmeejdmifaaGreatDoor.Tr
inductive PT where
 | leaf (tok : Nat) (text : List UInt8) (at_ : Nat)
 | gap (text : List UInt8) (at_ : Nat) (deep : Bool)
 | branch (kind : Nat) (at_ : Nat) (kids : List PT)
abbrev St := List PT × Nat
def thn (st : St) (f : Nat → St) : St := (st.1 ++ (f st.2).1, (f st.2).2)
def oneP (r : PT × Nat) : St := ([r.1], r.2)
def PT.from_ : PT → Nat
 | .leaf _ _ a => a
 | .gap _ a _ => a
 | .branch _ a _ => a
mutual
def PT.to_ : PT → Nat
 | .leaf _ t a => a + t.length
 | .gap _ a _ => a
 | .branch _ a l => lastTo a l
def lastTo (a : Nat) : List PT → Nat
 | [] => a
 | p :: l => lastTo (PT.to_ p) l
end
def blankT (t : Nat × Nat × Nat) : Bool := t.1 == 1 || t.1 == 2
def nextP (T : List (Nat × Nat × Nat)) (i : Nat) : Nat := i + ((T.drop i).takeWhile blankT).length
def kindP (T : List (Nat × Nat × Nat)) (n : Nat) : Nat := (T[n]?.map (·.1)).getD 0
def subT (s : List UInt8) (t : Nat × Nat × Nat) : List UInt8 := (s.drop t.2.1).take t.2.2
def textP (s : List UInt8) (T : List (Nat × Nat × Nat)) (n : Nat) : List UInt8 := (T[n]?.map (subT s)).getD []
section
variable (s : List UInt8) (T : List (Nat × Nat × Nat)) (b : Nat)
def absP (i : Nat) : Nat := (T[i]?.map (·.2.1)).getD s.length
def placeP (i : Nat) : Nat := absP s T i - b
def isP (l : List (List UInt8)) (i : Nat) : Bool := (kindP T (nextP T i) == 4 || kindP T (nextP T i) == 7) && l.contains (textP s T (nextP T i))
def leafP (t : Nat × Nat × Nat) : PT := .leaf t.1 (subT s t) (t.2.1 - b)
def toP (i : Nat) : Nat := min (nextP T i + 1) T.length
def takeP (i : Nat) : St := (((T.drop i).take (toP T i - i)).map (leafP s b), toP T i)
def missP (w : List UInt8) (i : Nat) : St := ([.gap w (placeP s T b i) false], i)
def wantP (w : List UInt8) (i : Nat) : St := if isP s T [w] i then takeP s T b i else missP s T b w i
def sName : List UInt8 := [110, 97, 109, 101]
def sExpr : List UInt8 := [101, 120, 112, 114, 101, 115, 115, 105, 111, 110]
def nameP (i : Nat) : St := if kindP T (nextP T i) == 3 then takeP s T b i else missP s T b sName i
def manyP (one : Nat → St) : Nat → St → St
 | 0, st => st
 | f + 1, st => if isP s T [[44]] st.2 then manyP one f (thn (thn st (takeP s T b)) one) else st
def brP (kind i : Nat) (st : St) : PT × Nat := (.branch kind (placeP s T b i) st.1, st.2)
def paramsP (i : Nat) : PT × Nat :=
 brP s T b 6 i (thn (if isP s T [[41]] (wantP s T b [40] i).2 then wantP s T b [40] i else manyP s T b (nameP s T b) (T.length + 1) (thn (wantP s T b [40] i) (nameP s T b))) (wantP s T b [41]))
def listP (e : Nat → St) (kind : Nat) (shut : List UInt8) (i : Nat) : PT × Nat :=
 brP s T b kind i (thn (if isP s T [shut] (takeP s T b i).2 then takeP s T b i else manyP s T b e (T.length + 1) (thn (takeP s T b i) e)) (wantP s T b shut))
def sTrue : List UInt8 := [116, 114, 117, 101]
def sFalse : List UInt8 := [102, 97, 108, 115, 101]
def leafK (k : Nat) (t : List UInt8) : Nat :=
 if k = 4 ∧ (t = sTrue ∨ t = sFalse) then 17 else if k = 7 ∧ t = [63] then 19 else if k = 5 then 15 else if k = 6 then 16 else if k = 3 then 18 else 0
def partP (e : Nat → St) (i : Nat) : PT × Nat :=
 if 0 < leafK (kindP T (nextP T i)) (textP s T (nextP T i)) then brP s T b (leafK (kindP T (nextP T i)) (textP s T (nextP T i))) i (takeP s T b i)
 else if isP s T [[40]] i then brP s T b 14 i (thn (thn (takeP s T b i) e) (wantP s T b [41]))
 else if isP s T [[91]] i then listP s T b e 13 [93] i
 else (.gap sExpr (placeP s T b i) false, i)
def callsP (e : Nat → St) : Nat → PT × Nat → PT × Nat
 | 0, r => r
 | f + 1, r => if isP s T [[40]] r.2 then callsP e f (.branch 11 r.1.from_ [r.1, (listP s T b e 12 [41] r.2).1], (listP s T b e 12 [41] r.2).2) else r
def callP (e : Nat → St) (i : Nat) : PT × Nat := callsP s T b e (T.length + 1) (partP s T b e i)
def binP (one : Nat → PT × Nat) (r : PT × Nat) : PT × Nat :=
 (.branch 10 r.1.from_ (r.1 :: (thn (takeP s T b r.2) (fun i => oneP (one i))).1), (thn (takeP s T b r.2) (fun i => oneP (one i))).2)
def rowsP (one : Nat → PT × Nat) (signs : List (List UInt8)) : Nat → PT × Nat → PT × Nat
 | 0, r => r
 | f + 1, r => if isP s T signs r.2 then rowsP one signs f (binP s T b one r) else r
def rowP (one : Nat → PT × Nat) (signs : List (List UInt8)) (i : Nat) : PT × Nat := rowsP s T b one signs (T.length + 1) (one i)
def productP (e : Nat → St) (i : Nat) : PT × Nat := rowP s T b (callP s T b e) [[42]] i
def sumP (e : Nat → St) (i : Nat) : PT × Nat := rowP s T b (productP s T b e) [[43], [45], [43, 43]] i
def compP (e : Nat → St) (i : Nat) : PT × Nat :=
 if isP s T [[61, 61], [60]] (sumP s T b e i).2 then binP s T b (sumP s T b e) (sumP s T b e i) else sumP s T b e i
def sLet : List UInt8 := [108, 101, 116]
def sIf : List UInt8 := [105, 102]
def sFun : List UInt8 := [102, 117, 110]
def sIn : List UInt8 := [105, 110]
def sThen : List UInt8 := [116, 104, 101, 110]
def sElse : List UInt8 := [101, 108, 115, 101]
def letP (e : Nat → St) (i : Nat) : PT × Nat := brP s T b 7 i (thn (thn (thn (thn (thn (takeP s T b i) (nameP s T b)) (wantP s T b [61])) e) (wantP s T b sIn)) e)
def ifP (e : Nat → St) (i : Nat) : PT × Nat := brP s T b 8 i (thn (thn (thn (thn (thn (takeP s T b i) e) (wantP s T b sThen)) e) (wantP s T b sElse)) e)
def funP (e : Nat → St) (i : Nat) : PT × Nat := brP s T b 9 i (thn (thn (thn (takeP s T b i) fun i => oneP (paramsP s T b i)) (wantP s T b [61, 62])) e)
def exprP : Nat → Nat → PT × Nat
 | 0, i => (.gap sExpr (placeP s T b i) true, i)
 | f + 1, i =>
  if isP s T [sLet] i then letP s T b (fun i => oneP (exprP f i)) i
  else if isP s T [sIf] i then ifP s T b (fun i => oneP (exprP f i)) i
  else if isP s T [sFun] i then funP s T b (fun i => oneP (exprP f i)) i
  else compP s T b (fun i => oneP (exprP f i)) i
def sUse : List UInt8 := [117, 115, 101]
def sPub : List UInt8 := [112, 117, 98]
def sDef : List UInt8 := [100, 101, 102]
def sAs : List UInt8 := [97, 115]
def startP (i : Nat) : Bool := isP s T [sUse, sPub, sDef] i
def junksP : Nat → Bool → St → St
 | 0, _, st => st
 | f + 1, last, st => if last = false ∧ nextP T st.2 < T.length ∧ startP s T st.2 = false then junksP f (isP s T [[59]] st.2) (thn st (takeP s T b)) else st
def pubP (i : Nat) : St := if isP s T [sPub] i then takeP s T b i else ([], i)
def useP (st : St) : St :=
 let u := thn (thn (thn (thn st (wantP s T b sUse)) (nameP s T b)) (wantP s T b [46])) (nameP s T b)
 thn (if isP s T [sAs] u.2 then thn (thn u (takeP s T b)) (nameP s T b) else u) (wantP s T b [59])
def defP (st : St) : St :=
 let u := thn (thn st (wantP s T b sDef)) (nameP s T b)
 thn (thn (thn (if isP s T [[40]] u.2 then thn u (fun i => oneP (paramsP s T b i)) else u) (wantP s T b [61])) (fun i => oneP (exprP s T b 65 i))) (wantP s T b [59])
def itemP (i : Nat) : PT × Nat :=
 if isP s T [sUse] (pubP s T b i).2 then brP s T b 3 i (useP s T b (pubP s T b i)) else brP s T b 4 i (defP s T b (pubP s T b i))
def junkP (i : Nat) : PT × Nat := brP s T b 5 i (junksP s T b (T.length + 1) false ([], i))
end
section
variable (s : List UInt8) (T : List (Nat × Nat × Nat))
def kidP (i : Nat) : PT × Nat := if startP s T i then itemP s T (absP s T i) i else junkP s T (absP s T i) i
structure Kd where
 part : PT
 base : Nat
 first : Nat
 last : Nat
def kidsP : Nat → Nat → List Kd × Nat
 | 0, i => ([], i)
 | f + 1, i => if nextP T i < T.length then (⟨(kidP s T i).1, absP s T i, i, (kidP s T i).2⟩ :: (kidsP f (kidP s T i).2).1, (kidsP f (kidP s T i).2).2) else ([], i)
def tailP (i : Nat) : List PT := (T.drop i).map (leafP s 0)
end
section
variable (s : List UInt8) (T : List (Nat × Nat × Nat)) (b : Nat)
theorem next_ge (i : Nat) : i ≤ nextP T i := by unfold nextP; omega
theorem next_le (i : Nat) (h : i ≤ T.length) : nextP T i ≤ T.length := by
 unfold nextP
 have := (List.takeWhile_prefix blankT (l := T.drop i)).length_le
 rw [List.length_drop] at this
 omega
theorem next_end (i : Nat) (h : T.length ≤ i) : nextP T i = i := by
 unfold nextP
 rw [List.drop_eq_nil_of_le h]
 rfl
theorem next_go (i : Nat) (h : i < T.length) (hb : blankT T[i] = true) : nextP T i = nextP T (i + 1) := by
 unfold nextP
 rw [List.drop_eq_getElem_cons h, List.takeWhile_cons, if_pos hb, List.length_cons]
 omega
theorem next_stop (i : Nat) (h : i < T.length) (hb : blankT T[i] = false) : nextP T i = i := by
 unfold nextP
 rw [List.drop_eq_getElem_cons h, List.takeWhile_cons, if_neg (by rw [hb]; simp)]
 rfl
theorem to_ge (i : Nat) (h : i ≤ T.length) : i ≤ toP T i := by
 have := next_ge T i
 unfold toP; omega
theorem to_le (i : Nat) : toP T i ≤ T.length := by unfold toP; omega
theorem to_gt (i : Nat) (h : nextP T i < T.length) : i < toP T i := by
 have := next_ge T i
 unfold toP; omega
theorem kind_end (n : Nat) (h : T.length ≤ n) : kindP T n = 0 := by unfold kindP; rw [List.getElem?_eq_none h]; rfl
theorem kind_at (n : Nat) (h : n < T.length) : kindP T n = T[n].1 := by unfold kindP; rw [List.getElem?_eq_getElem h]; rfl
theorem text_end (n : Nat) (h : T.length ≤ n) : textP s T n = [] := by unfold textP; rw [List.getElem?_eq_none h]; rfl
theorem text_at (n : Nat) (h : n < T.length) : textP s T n = subT s T[n] := by unfold textP; rw [List.getElem?_eq_getElem h]; rfl
theorem abs_end (n : Nat) (h : T.length ≤ n) : absP s T n = s.length := by unfold absP; rw [List.getElem?_eq_none h]; rfl
theorem abs_at (n : Nat) (h : n < T.length) : absP s T n = T[n].2.1 := by unfold absP; rw [List.getElem?_eq_getElem h]; rfl
theorem is_lt {l : List (List UInt8)} {i : Nat} (h : isP s T l i = true) : nextP T i < T.length := by
 apply Nat.lt_of_not_le
 intro hn
 unfold isP at h
 rw [kind_end T _ hn] at h
 simp at h
def Adv (f : Nat → St) (c : Nat) : Prop := ∀ i, i ≤ T.length → i ≤ (f i).2 ∧ (f i).2 ≤ T.length ∧ (f i).1.length ≤ 2 * ((f i).2 - i) + c
variable {s T b}
theorem Adv.mono {f : Nat → St} {c d : Nat} (h : Adv T f c) (hd : c ≤ d) : Adv T f d := fun i hi => by have := h i hi; omega
theorem Adv.thn {f g : Nat → St} {c d : Nat} (h : Adv T f c) (hg : Adv T g d) : Adv T (fun i => thn (f i) g) (c + d) := fun i hi => by
 have h1 := h i hi
 have h2 := hg (f i).2 h1.2.1
 unfold Tr.thn
 simp only [List.length_append]
 omega
theorem Adv.one {f : Nat → PT × Nat} (h : ∀ i, i ≤ T.length → i ≤ (f i).2 ∧ (f i).2 ≤ T.length) : Adv T (fun i => oneP (f i)) 1 := fun i hi => by
 have := h i hi
 unfold oneP
 simp only [List.length_cons, List.length_nil]
 omega
theorem Adv.ite {f g : Nat → St} {c : Nat} {p : Nat → Bool} (h : Adv T f c) (hg : Adv T g c) : Adv T (fun i => if p i then f i else g i) c := fun i hi => by
 dsimp only
 split
 ·exact h i hi
 ·exact hg i hi
variable (s T b)
theorem take_len (i : Nat) (h : i ≤ T.length) : (takeP s T b i).1.length = toP T i - i := by
 have h1 := to_le T i
 have h2 := to_ge T i h
 unfold takeP
 simp only [List.length_map, List.length_take, List.length_drop]
 omega
theorem take_adv : Adv T (takeP s T b) 0 := fun i hi => by
 have h1 := take_len s T b i hi
 have h2 := to_ge T i hi
 have h3 := to_le T i
 have h4 : (takeP s T b i).2 = toP T i := rfl
 omega
theorem miss_adv (w : List UInt8) : Adv T (missP s T b w) 1 := fun i hi => ⟨Nat.le_refl _, hi, by unfold missP; simp⟩
theorem want_adv (w : List UInt8) : Adv T (wantP s T b w) 1 := fun i hi => by
 unfold wantP
 split
 ·exact (take_adv s T b).mono (Nat.zero_le _) i hi
 ·exact miss_adv s T b w i hi
theorem name_adv : Adv T (nameP s T b) 1 := fun i hi => by
 unfold nameP
 split
 ·exact (take_adv s T b).mono (Nat.zero_le _) i hi
 ·exact miss_adv s T b sName i hi
def roundP (one : Nat → St) (st : St) : St := thn (thn st (takeP s T b)) one
theorem round_adv {one : Nat → St} (ho : Adv T one 1) (st : St) (h : st.2 ≤ T.length) (hn : nextP T st.2 < T.length) :
  st.2 < (roundP s T b one st).2 ∧ (roundP s T b one st).2 ≤ T.length ∧ (roundP s T b one st).1.length ≤ st.1.length + 2 * ((roundP s T b one st).2 - st.2) := by
 have h1 := take_adv s T b st.2 h
 have h2 := ho (takeP s T b st.2).2 h1.2.1
 have h3 := to_gt T st.2 hn
 have h4 : (takeP s T b st.2).2 = toP T st.2 := rfl
 have h5 := take_len s T b st.2 h
 unfold roundP Tr.thn
 simp only [List.length_append]
 omega
theorem many_succ (one : Nat → St) (f : Nat) (st : St) : manyP s T b one (f + 1) st = if isP s T [[44]] st.2 then manyP s T b one f (roundP s T b one st) else st := rfl
theorem many_fuel {one : Nat → St} (ho : Adv T one 1) : ∀ (f g : Nat) (st : St), st.2 ≤ T.length → T.length + 1 ≤ f + st.2 → T.length + 1 ≤ g + st.2 → manyP s T b one f st = manyP s T b one g st
 | 0, _, st, h, h1, _ => by omega
 | f + 1, 0, st, h, _, h2 => by omega
 | f + 1, g + 1, st, h, h1, h2 => by
  rw [many_succ, many_succ]
  split
  ·rename_i hi
   have h3 := round_adv s T b ho st h (is_lt s T hi)
   exact many_fuel ho f g _ h3.2.1 (by omega) (by omega)
  ·rfl
theorem many_step {one : Nat → St} (ho : Adv T one 1) (st : St) (h : st.2 ≤ T.length) (hi : isP s T [[44]] st.2 = true) : manyP s T b one (T.length + 1) st = manyP s T b one (T.length + 1) (roundP s T b one st) := by
 rw [many_succ, if_pos hi]
 have h3 := round_adv s T b ho st h (is_lt s T hi)
 exact many_fuel s T b ho _ _ _ h3.2.1 (by omega) (by omega)
theorem many_stop (one : Nat → St) (st : St) (hi : isP s T [[44]] st.2 = false) : manyP s T b one (T.length + 1) st = st := by rw [many_succ, if_neg (by rw [hi]; simp)]
theorem many_adv {one : Nat → St} (ho : Adv T one 1) : ∀ (f : Nat) (st : St), st.2 ≤ T.length → st.2 ≤ (manyP s T b one f st).2 ∧ (manyP s T b one f st).2 ≤ T.length ∧ (manyP s T b one f st).1.length ≤ st.1.length + 2 * ((manyP s T b one f st).2 - st.2)
 | 0, st, h => ⟨Nat.le_refl _, h, by unfold manyP; omega⟩
 | f + 1, st, h => by
  rw [many_succ]
  split
  ·rename_i hi
   have h3 := round_adv s T b ho st h (is_lt s T hi)
   have h4 := many_adv ho f _ h3.2.1
   omega
  ·exact ⟨Nat.le_refl _, h, by omega⟩
theorem many_advf {f : Nat → St} {one : Nat → St} {c : Nat} (hf : Adv T f c) (ho : Adv T one 1) : Adv T (fun i => manyP s T b one (T.length + 1) (f i)) c := fun i hi => by
 have h1 := hf i hi
 have h2 := many_adv s T b ho (T.length + 1) (f i) h1.2.1
 dsimp only
 omega
def Goes (f : Nat → PT × Nat) : Prop := ∀ i, i ≤ T.length → i ≤ (f i).2 ∧ (f i).2 ≤ T.length
theorem br_goes {f : Nat → St} {c kind : Nat} (h : Adv T f c) : Goes T (fun i => brP s T b kind i (f i)) := fun i hi => by
 have := h i hi
 exact ⟨this.1, this.2.1⟩
theorem params_goes : Goes T (paramsP s T b) := by
 have h1 := want_adv s T b [40]
 have h2 := many_advf s T b (h1.thn (name_adv s T b)) (name_adv s T b)
 exact br_goes s T b (kind := 6) (((h1.mono (by omega)).ite (p := fun i => isP s T [[41]] (wantP s T b [40] i).2) h2).thn (want_adv s T b [41]))
theorem list_goes {e : Nat → St} (he : Adv T e 1) (kind : Nat) (shut : List UInt8) : Goes T (listP s T b e kind shut) := by
 have h1 := take_adv s T b
 have h2 := many_advf s T b (h1.thn he) he
 exact br_goes s T b (kind := kind) (((h1.mono (by omega)).ite (p := fun i => isP s T [shut] (takeP s T b i).2) h2).thn (want_adv s T b shut))
theorem part_goes {e : Nat → St} (he : Adv T e 1) : Goes T (partP s T b e) := fun i hi => by
 unfold partP
 split
 ·exact br_goes s T b (take_adv s T b) i hi
 split
 ·exact br_goes s T b (kind := 14) (((take_adv s T b).thn he).thn (want_adv s T b [41])) i hi
 split
 ·exact list_goes s T b he 13 [93] i hi
 ·exact ⟨Nat.le_refl _, hi⟩
def callR (e : Nat → St) (r : PT × Nat) : PT × Nat := (.branch 11 r.1.from_ [r.1, (listP s T b e 12 [41] r.2).1], (listP s T b e 12 [41] r.2).2)
theorem list_gt {e : Nat → St} (he : Adv T e 1) (kind : Nat) (shut : List UInt8) (i : Nat) (hi : i ≤ T.length) (hn : nextP T i < T.length) : i < (listP s T b e kind shut i).2 := by
 have h0 := to_gt T i hn
 have h4 : (takeP s T b i).2 = toP T i := rfl
 have h1 := take_adv s T b i hi
 have h2 := he _ h1.2.1
 have h3 := many_adv s T b he (T.length + 1) (thn (takeP s T b i) e) h2.2.1
 unfold listP brP
 simp only [thn] at *
 split
 ·have := want_adv s T b shut _ h1.2.1
  omega
 ·have := want_adv s T b shut _ h3.2.1
  omega
theorem calls_succ (e : Nat → St) (f : Nat) (r : PT × Nat) : callsP s T b e (f + 1) r = if isP s T [[40]] r.2 then callsP s T b e f (callR s T b e r) else r := rfl
theorem calls_fuel {e : Nat → St} (he : Adv T e 1) : ∀ (f g : Nat) (r : PT × Nat), r.2 ≤ T.length → T.length + 1 ≤ f + r.2 → T.length + 1 ≤ g + r.2 → callsP s T b e f r = callsP s T b e g r
 | 0, _, r, h, h1, _ => by omega
 | f + 1, 0, r, h, _, h2 => by omega
 | f + 1, g + 1, r, h, h1, h2 => by
  rw [calls_succ, calls_succ]
  split
  ·rename_i hi
   have h3 := list_gt s T b he 12 [41] r.2 h (is_lt s T hi)
   have h4 := list_goes s T b he 12 [41] r.2 h
   have h5 : (callR s T b e r).2 = (listP s T b e 12 [41] r.2).2 := rfl
   exact calls_fuel he f g _ (by omega) (by omega) (by omega)
  ·rfl
theorem calls_step {e : Nat → St} (he : Adv T e 1) (r : PT × Nat) (h : r.2 ≤ T.length) (hi : isP s T [[40]] r.2 = true) : callsP s T b e (T.length + 1) r = callsP s T b e (T.length + 1) (callR s T b e r) := by
 rw [calls_succ, if_pos hi]
 have h3 := list_gt s T b he 12 [41] r.2 h (is_lt s T hi)
 have h4 := list_goes s T b he 12 [41] r.2 h
 have h5 : (callR s T b e r).2 = (listP s T b e 12 [41] r.2).2 := rfl
 exact calls_fuel s T b he _ _ _ (by omega) (by omega) (by omega)
theorem calls_stop (e : Nat → St) (r : PT × Nat) (hi : isP s T [[40]] r.2 = false) : callsP s T b e (T.length + 1) r = r := by rw [calls_succ, if_neg (by rw [hi]; simp)]
theorem calls_goes {e : Nat → St} (he : Adv T e 1) : ∀ (f : Nat) (r : PT × Nat), r.2 ≤ T.length → r.2 ≤ (callsP s T b e f r).2 ∧ (callsP s T b e f r).2 ≤ T.length
 | 0, r, h => ⟨Nat.le_refl _, h⟩
 | f + 1, r, h => by
  rw [calls_succ]
  split
  ·have h4 := list_goes s T b he 12 [41] r.2 h
   have h5 : (callR s T b e r).2 = (listP s T b e 12 [41] r.2).2 := rfl
   have := calls_goes he f (callR s T b e r) (by omega)
   omega
  ·exact ⟨Nat.le_refl _, h⟩
theorem call_goes {e : Nat → St} (he : Adv T e 1) : Goes T (callP s T b e) := fun i hi => by
 have h1 := part_goes s T b he i hi
 have h2 := calls_goes s T b he (T.length + 1) _ h1.2
 unfold callP
 omega
theorem bin_goes {one : Nat → PT × Nat} (ho : Goes T one) (r : PT × Nat) (h : r.2 ≤ T.length) : r.2 ≤ (binP s T b one r).2 ∧ (binP s T b one r).2 ≤ T.length := by
 have h1 := take_adv s T b r.2 h
 have h2 := ho _ h1.2.1
 have h5 : (binP s T b one r).2 = (one (takeP s T b r.2).2).2 := rfl
 omega
theorem bin_gt {one : Nat → PT × Nat} (ho : Goes T one) (r : PT × Nat) (h : r.2 ≤ T.length) (hn : nextP T r.2 < T.length) : r.2 < (binP s T b one r).2 := by
 have h1 := take_adv s T b r.2 h
 have h2 := ho _ h1.2.1
 have h3 := to_gt T r.2 hn
 have h4 : (takeP s T b r.2).2 = toP T r.2 := rfl
 have h5 : (binP s T b one r).2 = (one (takeP s T b r.2).2).2 := rfl
 omega
theorem rows_succ (one : Nat → PT × Nat) (signs : List (List UInt8)) (f : Nat) (r : PT × Nat) : rowsP s T b one signs (f + 1) r = if isP s T signs r.2 then rowsP s T b one signs f (binP s T b one r) else r := rfl
theorem rows_fuel {one : Nat → PT × Nat} (ho : Goes T one) (signs : List (List UInt8)) : ∀ (f g : Nat) (r : PT × Nat), r.2 ≤ T.length → T.length + 1 ≤ f + r.2 → T.length + 1 ≤ g + r.2 → rowsP s T b one signs f r = rowsP s T b one signs g r
 | 0, _, r, h, h1, _ => by omega
 | f + 1, 0, r, h, _, h2 => by omega
 | f + 1, g + 1, r, h, h1, h2 => by
  rw [rows_succ, rows_succ]
  split
  ·rename_i hi
   have h3 := bin_gt s T b ho r h (is_lt s T hi)
   have h4 := bin_goes s T b ho r h
   exact rows_fuel ho signs f g _ (by omega) (by omega) (by omega)
  ·rfl
theorem rows_step {one : Nat → PT × Nat} (ho : Goes T one) (signs : List (List UInt8)) (r : PT × Nat) (h : r.2 ≤ T.length) (hi : isP s T signs r.2 = true) : rowsP s T b one signs (T.length + 1) r = rowsP s T b one signs (T.length + 1) (binP s T b one r) := by
 rw [rows_succ, if_pos hi]
 have h3 := bin_gt s T b ho r h (is_lt s T hi)
 have h4 := bin_goes s T b ho r h
 exact rows_fuel s T b ho signs _ _ _ (by omega) (by omega) (by omega)
theorem rows_stop (one : Nat → PT × Nat) (signs : List (List UInt8)) (r : PT × Nat) (hi : isP s T signs r.2 = false) : rowsP s T b one signs (T.length + 1) r = r := by rw [rows_succ, if_neg (by rw [hi]; simp)]
theorem rows_goes {one : Nat → PT × Nat} (ho : Goes T one) (signs : List (List UInt8)) : ∀ (f : Nat) (r : PT × Nat), r.2 ≤ T.length → r.2 ≤ (rowsP s T b one signs f r).2 ∧ (rowsP s T b one signs f r).2 ≤ T.length
 | 0, r, h => ⟨Nat.le_refl _, h⟩
 | f + 1, r, h => by
  rw [rows_succ]
  split
  ·have h4 := bin_goes s T b ho r h
   have := rows_goes ho signs f _ h4.2
   omega
  ·exact ⟨Nat.le_refl _, h⟩
theorem row_goes {one : Nat → PT × Nat} (ho : Goes T one) (signs : List (List UInt8)) : Goes T (rowP s T b one signs) := fun i hi => by
 have h1 := ho i hi
 have h2 := rows_goes s T b ho signs (T.length + 1) _ h1.2
 unfold rowP
 omega
theorem product_goes {e : Nat → St} (he : Adv T e 1) : Goes T (productP s T b e) := row_goes s T b (call_goes s T b he) _
theorem sum_goes {e : Nat → St} (he : Adv T e 1) : Goes T (sumP s T b e) := row_goes s T b (product_goes s T b he) _
theorem comp_goes {e : Nat → St} (he : Adv T e 1) : Goes T (compP s T b e) := fun i hi => by
 have h1 := sum_goes s T b he i hi
 unfold compP
 split
 ·have := bin_goes s T b (sum_goes s T b he) (sumP s T b e i) h1.2
  omega
 ·exact h1
theorem expr_goes : ∀ f, Goes T (exprP s T b f)
 | 0 => fun i hi => ⟨Nat.le_refl _, hi⟩
 | f + 1 => fun i hi => by
  have he : Adv T (fun i => oneP (exprP s T b f i)) 1 := Adv.one (expr_goes f)
  have hp : Adv T (fun i => oneP (paramsP s T b i)) 1 := Adv.one (params_goes s T b)
  have ht := take_adv s T b
  rw [exprP]
  split
  ·exact br_goes s T b (kind := 7) (((((ht.thn (name_adv s T b)).thn (want_adv s T b [61])).thn he).thn (want_adv s T b sIn)).thn he) i hi
  split
  ·exact br_goes s T b (kind := 8) (((((ht.thn he).thn (want_adv s T b sThen)).thn he).thn (want_adv s T b sElse)).thn he) i hi
  split
  ·exact br_goes s T b (kind := 9) (((ht.thn hp).thn (want_adv s T b [61, 62])).thn he) i hi
  ·exact comp_goes s T b he i hi
theorem expr_adv (f : Nat) : Adv T (fun i => oneP (exprP s T b f i)) 1 := Adv.one (expr_goes s T b f)
theorem pub_adv : Adv T (pubP s T b) 0 := fun i hi => by
 unfold pubP
 split
 ·exact take_adv s T b i hi
 ·exact ⟨Nat.le_refl _, hi, by simp⟩
theorem junks_succ (f : Nat) (last : Bool) (st : St) : junksP s T b (f + 1) last st = if last = false ∧ nextP T st.2 < T.length ∧ startP s T st.2 = false then junksP s T b f (isP s T [[59]] st.2) (thn st (takeP s T b)) else st := rfl
theorem take_st (st : St) (h : st.2 ≤ T.length) (hn : nextP T st.2 < T.length) : st.2 < (thn st (takeP s T b)).2 ∧ (thn st (takeP s T b)).2 ≤ T.length ∧ (thn st (takeP s T b)).1.length = st.1.length + ((thn st (takeP s T b)).2 - st.2) := by
 have h1 := take_len s T b st.2 h
 have h2 := to_gt T st.2 hn
 have h3 := to_le T st.2
 have h4 : (thn st (takeP s T b)).2 = toP T st.2 := rfl
 unfold thn
 simp only [List.length_append]
 rw [h1]
 have h5 : (takeP s T b st.2).2 = toP T st.2 := rfl
 omega
theorem junks_fuel : ∀ (f g : Nat) (last : Bool) (st : St), st.2 ≤ T.length → T.length + 1 ≤ f + st.2 → T.length + 1 ≤ g + st.2 → junksP s T b f last st = junksP s T b g last st
 | 0, _, _, st, h, h1, _ => by omega
 | f + 1, 0, _, st, h, _, h2 => by omega
 | f + 1, g + 1, last, st, h, h1, h2 => by
  rw [junks_succ, junks_succ]
  split
  ·rename_i hi
   have h3 := take_st s T b st h hi.2.1
   exact junks_fuel f g _ _ h3.2.1 (by omega) (by omega)
  ·rfl
theorem junks_step (last : Bool) (st : St) (h : st.2 ≤ T.length) (hi : last = false ∧ nextP T st.2 < T.length ∧ startP s T st.2 = false) : junksP s T b (T.length + 1) last st = junksP s T b (T.length + 1) (isP s T [[59]] st.2) (thn st (takeP s T b)) := by
 rw [junks_succ, if_pos hi]
 have h3 := take_st s T b st h hi.2.1
 exact junks_fuel s T b _ _ _ _ h3.2.1 (by omega) (by omega)
theorem junks_stop (last : Bool) (st : St) (hi : ¬ (last = false ∧ nextP T st.2 < T.length ∧ startP s T st.2 = false)) : junksP s T b (T.length + 1) last st = st := by rw [junks_succ, if_neg hi]
theorem junks_adv : ∀ (f : Nat) (last : Bool) (st : St), st.2 ≤ T.length → st.2 ≤ (junksP s T b f last st).2 ∧ (junksP s T b f last st).2 ≤ T.length ∧ (junksP s T b f last st).1.length = st.1.length + ((junksP s T b f last st).2 - st.2)
 | 0, _, st, h => ⟨Nat.le_refl _, h, by unfold junksP; omega⟩
 | f + 1, last, st, h => by
  rw [junks_succ]
  split
  ·rename_i hi
   have h3 := take_st s T b st h hi.2.1
   have h4 := junks_adv f (isP s T [[59]] st.2) _ h3.2.1
   omega
  ·exact ⟨Nat.le_refl _, h, by omega⟩
end
def StOk (T : List (Nat × Nat × Nat)) (i c : Nat) (st : St) : Prop := i ≤ st.2 ∧ st.2 ≤ T.length ∧ st.1.length ≤ 2 * (st.2 - i) + c
section
variable {T : List (Nat × Nat × Nat)} {i c d : Nat} {st : St} {f : Nat → St}
theorem StOk.thn (h : StOk T i c st) (hf : Adv T f d) : StOk T i (c + d) (thn st f) := by
 have h1 := hf st.2 h.2.1
 obtain ⟨a, b, e⟩ := h
 unfold StOk Tr.thn
 simp only [List.length_append]
 omega
theorem StOk.mono (h : StOk T i c st) (hd : c ≤ d) : StOk T i d st := ⟨h.1, h.2.1, by have := h.2.2; omega⟩
theorem StOk.of (h : Adv T f c) (hi : i ≤ T.length) : StOk T i c (f i) := h i hi
theorem StOk.ite {p : Bool} {u : St} (h : StOk T i c st) (hu : StOk T i c u) : StOk T i c (if p then st else u) := by
 split
 ·exact h
 ·exact hu
end
section
variable (s : List UInt8) (T : List (Nat × Nat × Nat)) (b : Nat)
theorem use_ok {i c : Nat} {st : St} (h : StOk T i c st) : StOk T i (c + 6) (useP s T b st) := by
 unfold useP
 have h4 := (((h.thn (want_adv s T b sUse)).thn (name_adv s T b)).thn (want_adv s T b [46])).thn (name_adv s T b)
 have h5 := (h4.thn (take_adv s T b)).thn (name_adv s T b)
 exact ((h5.ite (h4.mono (by omega))).thn (want_adv s T b [59])).mono (by omega)
theorem def_ok {i c : Nat} {st : St} (h : StOk T i c st) : StOk T i (c + 6) (defP s T b st) := by
 unfold defP
 have h4 := (h.thn (want_adv s T b sDef)).thn (name_adv s T b)
 have h5 := h4.thn (Adv.one (params_goes s T b))
 exact ((((h5.ite (h4.mono (by omega))).thn (want_adv s T b [61])).thn (Adv.one (expr_goes s T b 65))).thn (want_adv s T b [59])).mono (by omega)
theorem want_gt {w : List UInt8} {i : Nat} (h : isP s T [w] i = true) : i < (wantP s T b w i).2 := by
 unfold wantP
 rw [if_pos h]
 exact to_gt T i (is_lt s T h)
theorem start_ways {i : Nat} (h : startP s T i = true) : isP s T [sPub] i = true ∨ isP s T [sUse] i = true ∨ (isP s T [sPub] i = false ∧ isP s T [sUse] i = false ∧ isP s T [sDef] i = true) := by
 unfold startP isP at *
 simp only [Bool.and_eq_true] at h
 obtain ⟨h1, h2⟩ := h
 rw [h1]
 simp only [Bool.true_and]
 have h2 : textP s T (nextP T i) ∈ [sUse, sPub, sDef] := by simpa [List.contains_iff_mem] using h2
 simp only [List.mem_cons, List.mem_nil_iff, or_false] at h2
 rcases h2 with h2 | h2 | h2 <;> rw [h2] <;> decide
theorem item_goes (i : Nat) (h : i ≤ T.length) : i ≤ (itemP s T b i).2 ∧ (itemP s T b i).2 ≤ T.length := by
 have h0 := StOk.of (pub_adv s T b) h
 unfold itemP
 split
 ·have := use_ok s T b h0
  exact ⟨this.1, this.2.1⟩
 ·have := def_ok s T b h0
  exact ⟨this.1, this.2.1⟩
theorem StOk.self {T : List (Nat × Nat × Nat)} {st : St} (h : st.2 ≤ T.length) : StOk T st.2 st.1.length st := ⟨Nat.le_refl _, h, by omega⟩
theorem use_ge {st : St} (h : st.2 ≤ T.length) : (thn st (wantP s T b sUse)).2 ≤ (useP s T b st).2 := by
 have h0 : (thn st (wantP s T b sUse)).2 ≤ T.length := (want_adv s T b sUse st.2 h).2.1
 unfold useP
 have h4 := (((StOk.self h0).thn (name_adv s T b)).thn (want_adv s T b [46])).thn (name_adv s T b)
 have h5 := (h4.thn (take_adv s T b)).thn (name_adv s T b)
 exact ((h5.ite (p := isP s T [sAs] (thn (thn (thn (thn st (wantP s T b sUse)) (nameP s T b)) (wantP s T b [46])) (nameP s T b)).2) (h4.mono (by omega))).thn (want_adv s T b [59])).1
theorem def_ge {st : St} (h : st.2 ≤ T.length) : (thn st (wantP s T b sDef)).2 ≤ (defP s T b st).2 := by
 have h0 : (thn st (wantP s T b sDef)).2 ≤ T.length := (want_adv s T b sDef st.2 h).2.1
 unfold defP
 have h4 := (StOk.self h0).thn (name_adv s T b)
 have h5 := h4.thn (Adv.one (params_goes s T b))
 exact ((((h5.ite (p := isP s T [[40]] (thn (thn st (wantP s T b sDef)) (nameP s T b)).2) (h4.mono (by omega))).thn (want_adv s T b [61])).thn (Adv.one (expr_goes s T b 65))).thn (want_adv s T b [59])).1
theorem item_gt (i : Nat) (h : i ≤ T.length) (hs : startP s T i = true) : i < (itemP s T b i).2 := by
 have h0 := StOk.of (pub_adv s T b) h
 have hu0 := use_ge s T b h0.2.1
 have hd0 := def_ge s T b h0.2.1
 have hu1 : (thn (pubP s T b i) (wantP s T b sUse)).2 = (wantP s T b sUse (pubP s T b i).2).2 := rfl
 have hd1 : (thn (pubP s T b i) (wantP s T b sDef)).2 = (wantP s T b sDef (pubP s T b i).2).2 := rfl
 have hu2 := (want_adv s T b sUse (pubP s T b i).2 h0.2.1).1
 have hd2 := (want_adv s T b sDef (pubP s T b i).2 h0.2.1).1
 have e1 : (brP s T b 3 i (useP s T b (pubP s T b i))).2 = (useP s T b (pubP s T b i)).2 := rfl
 have e2 : (brP s T b 4 i (defP s T b (pubP s T b i))).2 = (defP s T b (pubP s T b i)).2 := rfl
 by_cases hp : isP s T [sPub] i = true
 ·have h1 : i < (pubP s T b i).2 := by
   unfold pubP
   rw [if_pos hp]
   exact to_gt T i (is_lt s T hp)
  unfold itemP
  split
  ·omega
  ·omega
 ·have hpe : pubP s T b i = ([], i) := by unfold pubP; rw [if_neg hp]
  have hpi : (pubP s T b i).2 = i := by rw [hpe]
  rcases start_ways s T hs with hp' | hu | ⟨_, hu, hd⟩
  ·exact absurd hp' hp
  ·have hu' : isP s T [sUse] (pubP s T b i).2 = true := by rw [hpi]; exact hu
   unfold itemP
   rw [if_pos hu']
   have := want_gt s T b hu'
   omega
  ·have hu' : ¬ isP s T [sUse] (pubP s T b i).2 = true := by rw [hpi, hu]; simp
   have hd' : isP s T [sDef] (pubP s T b i).2 = true := by rw [hpi]; exact hd
   unfold itemP
   rw [if_neg hu']
   have := want_gt s T b hd'
   omega
theorem junk_goes (i : Nat) (h : i ≤ T.length) : i ≤ (junkP s T b i).2 ∧ (junkP s T b i).2 ≤ T.length := by
 have := junks_adv s T b (T.length + 1) false ([], i) h
 exact ⟨this.1, this.2.1⟩
theorem junk_gt (i : Nat) (h : i ≤ T.length) (hn : nextP T i < T.length) (hs : startP s T i = false) : i < (junkP s T b i).2 := by
 have h1 := junks_step s T b false ([], i) h ⟨rfl, hn, hs⟩
 have h2 := take_st s T b ([], i) h hn
 have h3 := junks_adv s T b (T.length + 1) (isP s T [[59]] i) (thn ([], i) (takeP s T b)) h2.2.1
 have e : (junkP s T b i).2 = (junksP s T b (T.length + 1) false ([], i)).2 := rfl
 rw [h1] at e
 dsimp only at *
 omega
theorem kid_goes (i : Nat) (h : i ≤ T.length) : i ≤ (kidP s T i).2 ∧ (kidP s T i).2 ≤ T.length := by
 unfold kidP
 split
 ·exact item_goes s T _ i h
 ·exact junk_goes s T _ i h
theorem kid_gt (i : Nat) (h : i ≤ T.length) (hn : nextP T i < T.length) : i < (kidP s T i).2 := by
 unfold kidP
 split
 ·rename_i hs; exact item_gt s T _ i h hs
 ·rename_i hs; exact junk_gt s T _ i h hn (by simpa using hs)
def kdP (i : Nat) : Kd := ⟨(kidP s T i).1, absP s T i, i, (kidP s T i).2⟩
theorem kids_succ (f i : Nat) : kidsP s T (f + 1) i = if nextP T i < T.length then (kdP s T i :: (kidsP s T f (kidP s T i).2).1, (kidsP s T f (kidP s T i).2).2) else ([], i) := rfl
theorem kids_fuel : ∀ (f g i : Nat), i ≤ T.length → T.length + 1 ≤ f + i → T.length + 1 ≤ g + i → kidsP s T f i = kidsP s T g i
 | 0, _, i, h, h1, _ => by omega
 | f + 1, 0, i, h, _, h2 => by omega
 | f + 1, g + 1, i, h, h1, h2 => by
  rw [kids_succ, kids_succ]
  split
  ·rename_i hn
   have h3 := kid_gt s T i h hn
   have h4 := kid_goes s T i h
   rw [kids_fuel f g _ h4.2 (by omega) (by omega)]
  ·rfl
theorem kids_step (i : Nat) (h : i ≤ T.length) (hn : nextP T i < T.length) : kidsP s T (T.length + 1) i = (kdP s T i :: (kidsP s T (T.length + 1) (kidP s T i).2).1, (kidsP s T (T.length + 1) (kidP s T i).2).2) := by
 rw [kids_succ, if_pos hn]
 have h3 := kid_gt s T i h hn
 have h4 := kid_goes s T i h
 rw [kids_fuel s T T.length (T.length + 1) _ h4.2 (by omega) (by omega)]
theorem kids_stop (i : Nat) (hn : ¬ nextP T i < T.length) : kidsP s T (T.length + 1) i = ([], i) := by rw [kids_succ, if_neg hn]
structure Good : Prop where
 in_ : ∀ t ∈ T, t.2.1 + t.2.2 ≤ s.length ∧ 1 ≤ t.1 ∧ t.1 ≤ 8
 up : ∀ i j, i ≤ j → absP s T i ≤ absP s T j
theorem Good.abs_le {s : List UInt8} {T : List (Nat × Nat × Nat)} (h : Good s T) (i : Nat) : absP s T i ≤ s.length := by
 have := h.up i (max i T.length) (by omega)
 rwa [abs_end s T (max i T.length) (by omega)] at this
end
end Go.Proofs.YtalklmeejdmifaaGreatDoor.Tr
namespace Go.Proofs.YtalklmeejdmifaaGreatDoor
open Go.RowKit
def Rd (w : World) (B size : Nat) (A : Option Addr) (n : Nat) (xs : List Value) : Prop :=
 xs.length = n * size ∧ (0 < n → ∃ b o, A = some ⟨b, o, none⟩ ∧ b < B ∧ ∀ j u, xs[j]? = some u → w.cell? ⟨b, o + j, none⟩ = some u)
section
variable {w w' : World} {B B' size n : Nat} {A : Option Addr} {xs : List Value}
theorem Rd.keep (h : Rd w B size A n xs) (hk : ∀ b o, b < B → w'.cell? ⟨b, o, none⟩ = w.cell? ⟨b, o, none⟩) : Rd w' B size A n xs :=
 ⟨h.1, fun hn => by
  obtain ⟨b, o, e, hb, hc⟩ := h.2 hn
  exact ⟨b, o, e, hb, fun j u hu => (hk _ _ hb).trans (hc j u hu)⟩⟩
theorem Rd.more (h : Rd w B size A n xs) (hB : B ≤ B') : Rd w B' size A n xs :=
 ⟨h.1, fun hn => by
  obtain ⟨b, o, e, hb, hc⟩ := h.2 hn
  exact ⟨b, o, e, by omega, hc⟩⟩
theorem Rd.below (h : Rd w B size A n xs) (hb : Below B w w') : Rd w' B size A n xs := h.keep fun _ _ hp => hb.cell hp
theorem Rd.of_own {base : Nat} {e : TypeId} {c : Nat} (h : w.ownsRow base e size (.slice A n c) n xs) : Rd w w.heap.size size A n xs := by
 refine ⟨h.1, fun hn => ?_⟩
 obtain ⟨g, cap, hv, _, hlt⟩ := h.form hn
 have hA : A = some ⟨g, 0, none⟩ := by injection hv
 subst hA
 refine ⟨g, 0, rfl, hlt, fun j u hu => ?_⟩
 have := h.cells (g := g) rfl j u hu
 unfold Addr.add at this
 by_cases hj : j = 0
 ·subst hj; simpa using this
 ·simpa [hj] using this
end
theorem below_drewN {B : Nat} {a w : World} (h : Below B a w) (n : Nat) : Below B a (w.drewN n) := ⟨h.os, h.tape, h.output, h.size, h.block⟩
theorem ext_data (s : ByteArray) (a f : Nat) : (s.extract a f).data.toList = (s.data.toList.drop a).take (f - a) := by
 rw [ByteArray.data_extract, Array.toList_extract, List.extract_eq_take_drop]
theorem mk_size (l : List UInt8) : (⟨l.toArray⟩ : ByteArray).size = l.length := by show l.toArray.size = _; simp
theorem dlen (s : ByteArray) : s.data.toList.length = s.size := by rw [Array.length_toList]; rfl
theorem frozen_alloc (w : World) (o : Obj) (b i : Nat) (h : b < w.heap.size) : (w.alloc o).frozen? ⟨b, i, none⟩ = w.frozen? ⟨b, i, none⟩ :=
 World.frozen?_of_block (a := ⟨b, i, none⟩) (Below.heap_alloc w o b h)
theorem cell_alloc (w : World) (o : Obj) (b i : Nat) (h : b < w.heap.size) : (w.alloc o).cell? ⟨b, i, none⟩ = w.cell? ⟨b, i, none⟩ :=
 World.cell?_of_block (a := ⟨b, i, none⟩) (Below.heap_alloc w o b h)
def tyOf : Obj → Option TypeId
 | .cells _ t _ => some t
 | _ => none
def KeepX (T : List TypeId) (w w' : World) : Prop := ∀ (k : Nat) (o : Obj), w.heap[k]? = some o → (∀ t ∈ T, tyOf o ≠ some t) → w'.heap[k]? = some o
section
variable {T : List TypeId} {a w w' : World}
theorem lt_heap {w : World} {k : Nat} {o : Obj} (h : w.heap[k]? = some o) : k < w.heap.size := by
 rcases Nat.lt_or_ge k w.heap.size with h' | h'
 ·exact h'
 ·rw [Array.getElem?_eq_none h'] at h; cases h
theorem KeepX.refl (T : List TypeId) (w : World) : KeepX T w w := fun _ _ h _ => h
theorem KeepX.trans (h : KeepX T a w) (h' : KeepX T w w') : KeepX T a w' := fun k o hk ht => h' k o (h k o hk ht) ht
theorem KeepX.drew (h : KeepX T a w) : KeepX T a w.drew := h
theorem KeepX.drewN (h : KeepX T a w) (n : Nat) : KeepX T a (w.drewN n) := h
theorem KeepX.alloc (h : KeepX T a w) (o : Obj) : KeepX T a (w.alloc o) := fun k o' hk ht => by
 have := h k o' hk ht
 rw [Below.heap_alloc w o k (lt_heap this)]; exact this
theorem KeepX.below {B : Nat} (h : KeepX T a w) (hb : Below B w w') (hB : w.heap.size ≤ B) : KeepX T a w' := fun k o hk ht => by
 have := h k o hk ht
 rw [hb.block k (Nat.lt_of_lt_of_le (lt_heap this) hB)]; exact this
theorem KeepX.setCell (h : KeepX T a w) {p : Addr} {cs : Array Value} {t : TypeId} {fr : Nat × Nat} (hp : w.heap[p.block]? = some (.cells cs t fr)) (ht : t ∈ T) (u : Value) : KeepX T a (w.setCell p u) := fun k o hk hn => by
 have := h k o hk hn
 rw [Below.heap_setCell w p u k (fun e => by subst e; rw [this] at hp; injection hp with hp; subst hp; exact hn t ht rfl)]; exact this
theorem KeepX.grown (h : KeepX T a w) {row : Option Nat} (hg : w.grownBy w' row) (hr : ∀ g, row = some g → ∃ cs t fr, w.heap[g]? = some (.cells cs t fr) ∧ t ∈ T) : KeepX T a w' := fun k o hk hn => by
 have := h k o hk hn
 rw [hg.block k (lt_heap this) (fun e => by
  obtain ⟨cs, t, fr, h1, h2⟩ := hr k e.symm
  rw [this] at h1; injection h1 with h1; subst h1; exact hn t h2 rfl)]; exact this
theorem KeepX.mono {T' : List TypeId} (h : KeepX T a w) (hs : ∀ t ∈ T, t ∈ T') : KeepX T' a w := fun k o hk hn => h k o hk fun t ht => hn t (hs t ht)
end
theorem own_ty {w : World} {base : Nat} {e : TypeId} {size n : Nat} {v : Value} {xs : List Value} (h : w.ownsRow base e size v n xs) (g : Nat) (hg : v.ownBlock = some g) : ∃ cs fr, w.heap[g]? = some (.cells cs e fr) := by
 rcases h.2 with ⟨rfl, _⟩ | ⟨g', cap, cur, rfl, _, hh, _⟩
 ·simp [Value.ownBlock] at hg
 ·simp only [Value.ownBlock, Option.some.injEq] at hg; subst hg; exact ⟨_, _, hh⟩
def Blk (w : World) (g : Nat) (t : TypeId) (cs : Array Value) : Prop := w.heap[g]? = some (.cells cs t (0, 0))
section
variable {w w' : World} {g : Nat} {t : TypeId} {cs : Array Value}
theorem Blk.lt (h : Blk w g t cs) : g < w.heap.size := lt_heap h
theorem Blk.cell (h : Blk w g t cs) (i : Nat) : w.cell? ⟨g, i, none⟩ = cs[i]? := by unfold Blk at h; simp [World.cell?, h]
theorem Blk.frozen (h : Blk w g t cs) (i : Nat) : w.frozen? ⟨g, i, none⟩ = false := by unfold Blk at h; simp [World.frozen?, h]
theorem Blk.new (w : World) (t : TypeId) (cs : Array Value) : Blk (w.alloc (.cells cs t)) w.heap.size t cs := heap_alloc_new w _
theorem Blk.drew (h : Blk w g t cs) : Blk w.drew g t cs := h
theorem Blk.drewN (h : Blk w g t cs) (n : Nat) : Blk (w.drewN n) g t cs := h
theorem Blk.alloc (h : Blk w g t cs) (o : Obj) : Blk (w.alloc o) g t cs := (Below.heap_alloc w o g h.lt).trans h
theorem Blk.set_ (h : Blk w g t cs) (i : Nat) (u : Value) : Blk (w.setCell ⟨g, i, none⟩ u) g t (cs.setIfInBounds i u) := by
 unfold Blk at h ⊢
 simp [World.setCell, Array.getElem?_modify, h]
theorem Blk.far (h : Blk w g t cs) {p : Addr} (hp : g ≠ p.block) (u : Value) : Blk (w.setCell p u) g t cs := (Below.heap_setCell w p u g hp).trans h
theorem Blk.below {B : Nat} (h : Blk w g t cs) (hb : Below B w w') (hg : g < B) : Blk w' g t cs := (hb.block g hg).trans h
theorem Blk.keep {T : List TypeId} (h : Blk w g t cs) (hk : KeepX T w w') (ht : t ∉ T) : Blk w' g t cs :=
 hk g _ h fun t' ht' e => by simp only [tyOf, Option.some.injEq] at e; subst e; exact ht ht'
theorem Blk.grown {row : Option Nat} (h : Blk w g t cs) (hb : w.grownBy w' row) (hg : some g ≠ row) : Blk w' g t cs := (hb.block g h.lt hg).trans h
end
theorem own_ne {w : World} {base : Nat} {e t : TypeId} {size n : Nat} {v : Value} {xs : List Value} {g : Nat} {cs : Array Value} (h : w.ownsRow base e size v n xs) (hg : Blk w g t cs) (hne : e ≠ t) : some g ≠ v.ownBlock := fun e' => by
 obtain ⟨cs', fr, h1⟩ := own_ty h g e'.symm
 unfold Blk at hg; rw [hg] at h1; injection h1 with h1; injection h1 with _ h1 _; exact hne h1.symm
theorem own_of_block {w w' : World} {base : Nat} {e : TypeId} {size n : Nat} {v : Value} {xs : List Value} (h : w.ownsRow base e size v n xs)
  (hk : ∀ k, v.ownBlock = some k → w'.heap[k]? = w.heap[k]?) : w'.ownsRow base e size v n xs := by
 refine ⟨h.1, ?_⟩
 rcases h.2 with hn | ⟨g, cap, cur, rfl, hb, hgg, rest⟩
 ·exact .inl hn
 ·exact .inr ⟨g, cap, cur, rfl, hb, by rw [hk g rfl]; exact hgg, rest⟩
theorem own_mono {w : World} {base base' : Nat} {e : TypeId} {size n : Nat} {v : Value} {xs : List Value} (h : w.ownsRow base e size v n xs) (hb : base' ≤ base) : w.ownsRow base' e size v n xs := by
 refine ⟨h.1, ?_⟩
 rcases h.2 with hn | ⟨g, cap, cur, hv, hg, r⟩
 ·exact .inl hn
 ·exact .inr ⟨g, cap, cur, hv, Nat.le_trans hb hg, r⟩
theorem own_form {w : World} {base : Nat} {e : TypeId} {size n : Nat} {v : Value} {xs : List Value} (h : w.ownsRow base e size v n xs) : ∃ A cap, v = .slice A n cap := by
 rcases h.2 with ⟨rfl, rfl⟩ | ⟨g, cap, cur, rfl, _⟩
 ·exact ⟨none, 0, rfl⟩
 ·exact ⟨_, _, rfl⟩
theorem own_cell {w : World} {base : Nat} {e : TypeId} {size n g cap : Nat} {xs : List Value} (h : w.ownsRow base e size (.slice (some ⟨g, 0, none⟩) n cap) n xs) (j : Nat) (u : Value) (hu : xs[j]? = some u) : w.cell? ⟨g, j, none⟩ = some u := by
 have := h.cells (g := g) rfl j u hu
 have e : (⟨g, 0, none⟩ : Addr).add j = ⟨g, j, none⟩ := by unfold Addr.add; split <;> simp_all
 rwa [e] at this
abbrev Bs := List UInt8
def strV (b : Bs) : Value := .string ⟨b.toArray⟩
def txtV (l : List Bs) : List Value := l.map strV
theorem txtV_len (l : List Bs) : (txtV l).length = l.length := by simp [txtV]
theorem txtV_get (l : List Bs) {k : Nat} (hk : k < l.length) : (txtV l)[k]? = some (strV l[k]) := by
 simp [txtV, List.getElem?_eq_getElem hk]
theorem Rd.txt {w : World} {B : Nat} {A : Option Addr} {l : List Bs} {k : Nat} (h : Rd w B 1 A l.length (txtV l)) (hk : k < l.length) :
  ∃ b o, A = some ⟨b, o, none⟩ ∧ b < B ∧ w.cell? ⟨b, o + k, none⟩ = some (strV l[k]) := by
 obtain ⟨b, o, e, hb, hc⟩ := h.2 (by omega)
 exact ⟨b, o, e, hb, hc k _ (txtV_get l hk)⟩
theorem ext_str (s : Bs) (a f : Nat) : Value.string ((⟨s.toArray⟩ : ByteArray).extract a f) = strV ((s.take f).drop a) := by
 unfold strV
 congr 1
 rw [← Lib.mk_data ((⟨s.toArray⟩ : ByteArray).extract a f)]
 congr 2
 rw [ext_data]
 simp [List.drop_take]
end Go.Proofs.YtalklmeejdmifaaGreatDoor
namespace Go.Proofs.YtalklmeejdmifaaGreatDoor
def byteAt (l : List UInt8) (k : Nat) : Nat := (l[k]?.getD 0).toNat
def contAt (l : List UInt8) (k : Nat) : Bool := decide (k < l.length) && byteAt l k / 64 == 2
def dec (l : List UInt8) : Nat × Nat :=
 if byteAt l 0 < 0x80 then (byteAt l 0, 1)
 else if byteAt l 0 / 32 == 6 && contAt l 1 then
  if (byteAt l 0 % 32) * 64 + byteAt l 1 % 64 ≥ 0x80 then ((byteAt l 0 % 32) * 64 + byteAt l 1 % 64, 2) else (Utf8.runeError, 1)
 else if byteAt l 0 / 16 == 14 && contAt l 1 && contAt l 2 then
  if (byteAt l 0 % 16) * 4096 + (byteAt l 1 % 64) * 64 + byteAt l 2 % 64 ≥ 0x800 && Utf8.valid (((byteAt l 0 % 16) * 4096 + (byteAt l 1 % 64) * 64 + byteAt l 2 % 64 : Nat) : Int) then ((byteAt l 0 % 16) * 4096 + (byteAt l 1 % 64) * 64 + byteAt l 2 % 64, 3) else (Utf8.runeError, 1)
 else if byteAt l 0 / 8 == 30 && contAt l 1 && contAt l 2 && contAt l 3 then
  if (byteAt l 0 % 8) * 262144 + (byteAt l 1 % 64) * 4096 + (byteAt l 2 % 64) * 64 + byteAt l 3 % 64 ≥ 0x10000 && Utf8.valid (((byteAt l 0 % 8) * 262144 + (byteAt l 1 % 64) * 4096 + (byteAt l 2 % 64) * 64 + byteAt l 3 % 64 : Nat) : Int) then ((byteAt l 0 % 8) * 262144 + (byteAt l 1 % 64) * 4096 + (byteAt l 2 % 64) * 64 + byteAt l 3 % 64, 4) else (Utf8.runeError, 1)
 else (Utf8.runeError, 1)
theorem byte_get (s : ByteArray) (pos k : Nat) : (s.get! (pos + k)).toNat = byteAt (s.data.toList.drop pos) k := by
 unfold byteAt
 rw [List.getElem?_drop]
 show (s.data[pos + k]!).toNat = _
 rw [Array.getElem!_eq_getD, Array.getD_eq_getD_getElem?, Array.getElem?_toList]
 rfl
theorem cont_get (s : ByteArray) (pos k : Nat) : (decide (pos + k < s.size) && (s.get! (pos + k)).toNat / 64 == 2) = contAt (s.data.toList.drop pos) k := by
 unfold contAt
 rw [byte_get, List.length_drop, ← Go.Lib.size_eq]
 congr 1
 simp; omega
theorem decode_eq (s : ByteArray) (pos : Nat) : Utf8.decode s pos = dec (s.data.toList.drop pos) := by
 unfold Utf8.decode dec
 simp only [cont_get]
 simp only [byte_get]
theorem cont_lt {l : List UInt8} {k : Nat} (h : contAt l k = true) : k < l.length ∧ byteAt l k / 64 = 2 := by
 unfold contAt at h
 simpa using h
theorem dec_size (l : List UInt8) : 1 ≤ (dec l).2 ∧ (dec l).2 ≤ 4 ∧ ∀ j, 1 ≤ j → j < (dec l).2 → j < l.length ∧ byteAt l j / 64 = 2 := by
 unfold dec
 split
 ·exact ⟨by simp, by simp, fun j h1 h2 => by simp at h2; omega⟩
 split
 ·rename_i h
  simp only [Bool.and_eq_true] at h
  have h1 := cont_lt h.2
  split
  ·exact ⟨by simp, by simp, fun j h2 h3 => by obtain rfl : j = 1 := by simp at h3; omega
                                              exact h1⟩
  ·exact ⟨by simp, by simp, fun j h1 h2 => by simp at h2; omega⟩
 split
 ·rename_i h
  simp only [Bool.and_eq_true] at h
  have h1 := cont_lt h.1.2
  have h2 := cont_lt h.2
  split
  ·refine ⟨by simp, by simp, fun j h3 h4 => ?_⟩
   have h5 : j = 1 ∨ j = 2 := by simp at h4; omega
   rcases h5 with rfl | rfl <;> assumption
  ·exact ⟨by simp, by simp, fun j h1 h2 => by simp at h2; omega⟩
 split
 ·rename_i h
  simp only [Bool.and_eq_true] at h
  have h1 := cont_lt h.1.1.2
  have h2 := cont_lt h.1.2
  have h3 := cont_lt h.2
  split
  ·refine ⟨by simp, by simp, fun j h3 h4 => ?_⟩
   have h5 : j = 1 ∨ j = 2 ∨ j = 3 := by simp at h4; omega
   rcases h5 with rfl | rfl | rfl <;> assumption
  ·exact ⟨by simp, by simp, fun j h1 h2 => by simp at h2; omega⟩
 ·exact ⟨by simp, by simp, fun j h1 h2 => by simp at h2; omega⟩
theorem dec_le (l : List UInt8) (h : l ≠ []) : (dec l).2 ≤ l.length := by
 obtain ⟨h1, h2, h3⟩ := dec_size l
 rcases Nat.lt_or_ge 1 (dec l).2 with h4 | h4
 ·have := h3 ((dec l).2 - 1) (by omega) (by omega)
  omega
 ·have : 0 < l.length := List.length_pos_iff.2 h
  omega
theorem dec_big {l : List UInt8} (h : 128 ≤ byteAt l 0) : 128 ≤ (dec l).1 := by
 unfold dec
 rw [if_neg (by omega)]
 split
 ·split
  ·rename_i h; exact h
  ·show 128 ≤ Utf8.runeError; decide
 split
 ·split
  ·rename_i h
   simp only [Bool.and_eq_true, decide_eq_true_eq] at h
   show 128 ≤ _ ; omega
  ·show 128 ≤ Utf8.runeError; decide
 split
 ·split
  ·rename_i h
   simp only [Bool.and_eq_true, decide_eq_true_eq] at h
   show 128 ≤ _ ; omega
  ·show 128 ≤ Utf8.runeError; decide
 ·show 128 ≤ Utf8.runeError; decide
theorem dec_small {l : List UInt8} (h : byteAt l 0 < 128) : dec l = (byteAt l 0, 1) := by unfold dec; rw [if_pos (by omega)]
end Go.Proofs.YtalklmeejdmifaaGreatDoor
namespace Go.Proofs.YtalklmeejdmifaaGreatDoor.Lx
def letterB (c : Nat) : Bool := (decide (97 ≤ c) && decide (c ≤ 122) || decide (65 ≤ c) && decide (c ≤ 90) || c == 95) || (decide (192 ≤ c) && decide (c ≤ 591) && (c != 215 && c != 247)) || (decide (880 ≤ c) && decide (c ≤ 1023)) || (decide (1024 ≤ c) && decide (c ≤ 1279))
def digitB (c : Nat) : Bool := decide (48 ≤ c) && decide (c ≤ 57)
def spaceB (c : Nat) : Bool := c == 9 || c == 10 || c == 13 || c == 32
def bothB (c : Nat) : Bool := letterB c || digitB c
def runF (p : Nat → Bool) : Nat → List UInt8 → Nat
 | 0, _ => 0
 | f + 1, l => if l.isEmpty then 0 else if p (dec l).1 then (dec l).2 + runF p f (l.drop (dec l).2) else 0
def run (p : Nat → Bool) (l : List UInt8) : Nat := runF p l.length l
theorem runF_fuel (p : Nat → Bool) : ∀ (f g : Nat) (l : List UInt8), l.length ≤ f → l.length ≤ g → runF p f l = runF p g l
 | 0, 0, _, _, _ => rfl
 | 0, g + 1, l, h, _ => by
  have : l = [] := List.eq_nil_of_length_eq_zero (by omega)
  subst this; simp [runF]
 | f + 1, 0, l, _, h => by
  have : l = [] := List.eq_nil_of_length_eq_zero (by omega)
  subst this; simp [runF]
 | f + 1, g + 1, l, h1, h2 => by
  simp only [runF]
  cases hl : l.isEmpty with
  | true => rfl
  | false =>
   have hd := dec_size l
   rw [runF_fuel p f g (l.drop (dec l).2) (by rw [List.length_drop]; omega) (by rw [List.length_drop]; omega)]
theorem run_nil (p : Nat → Bool) : run p [] = 0 := rfl
theorem run_go (p : Nat → Bool) {l : List UInt8} (hl : l ≠ []) (hp : p (dec l).1 = true) : run p l = (dec l).2 + run p (l.drop (dec l).2) := by
 have hd := dec_size l
 have h0 : 0 < l.length := List.length_pos_iff.2 hl
 unfold run
 obtain ⟨f, hf⟩ : ∃ f, l.length = f + 1 := ⟨l.length - 1, by omega⟩
 rw [hf]
 simp only [runF]
 rw [if_neg (by simpa using hl), if_pos hp, runF_fuel p f (l.drop (dec l).2).length _ (by rw [List.length_drop]; omega) (by omega)]
theorem run_stop (p : Nat → Bool) {l : List UInt8} (hp : p (dec l).1 = false) : run p l = 0 := by
 unfold run
 cases l.length with
 | zero => rfl
 | succ f => simp only [runF]; rw [if_neg (by simp [hp] : ¬ p (dec l).1 = true)]; split <;> rfl
theorem run_le (p : Nat → Bool) : ∀ (n : Nat) (l : List UInt8), l.length = n → run p l ≤ l.length := by
 intro n
 induction n using Nat.strongRecOn with
 | _ n ih =>
  intro l hl
  by_cases h0 : l = []
  ·subst h0; simp [run_nil]
  ·cases hp : p (dec l).1 with
   | false => rw [run_stop p hp]; omega
   | true =>
    have hd := dec_size l
    have hle := dec_le l h0
    have := ih (l.drop (dec l).2).length (by rw [List.length_drop]; have := List.length_pos_iff.2 h0; omega) _ rfl
    rw [run_go p h0 hp]
    rw [List.length_drop] at this
    omega
theorem run_ascii (p : Nat → Bool) (h : ∀ c, 128 ≤ c → p c = false) : ∀ l : List UInt8, run p l = (l.takeWhile fun b => p b.toNat).length
 | [] => rfl
 | b :: t => by
  have hb : byteAt (b :: t) 0 = b.toNat := rfl
  rcases Nat.lt_or_ge b.toNat 128 with h1 | h1
  ·have hd : dec (b :: t) = (b.toNat, 1) := by rw [dec_small (by rw [hb]; exact h1), hb]
   cases hp : p b.toNat with
   | true =>
    rw [run_go p (by simp) (by rw [hd]; exact hp), hd]
    simp only [List.takeWhile_cons, hp, if_true, List.length_cons, List.drop_succ_cons, List.drop_zero]
    rw [run_ascii p h t]; omega
   | false =>
    rw [run_stop p (by rw [hd]; exact hp)]
    simp [hp]
  ·rw [run_stop p (h _ (dec_big (by rw [hb]; exact h1)))]
   simp [h _ h1]
def remM : Nat → List UInt8 → Option Nat
 | _, [] => none
 | _, [_] => none
 | d, a :: b :: t =>
  if a = 123 ∧ b = 45 then (remM (d + 1) t).map (· + 2)
  else if a = 45 ∧ b = 125 then (if d = 1 then some 2 else (remM (d - 1) t).map (· + 2))
  else (remM d (b :: t)).map (· + 1)
def hexV (b : UInt8) : Option Nat :=
 if 48 ≤ b.toNat ∧ b.toNat ≤ 57 then some (b.toNat - 48) else if 97 ≤ b.toNat ∧ b.toNat ≤ 102 then some (b.toNat - 87) else if 65 ≤ b.toNat ∧ b.toNat ≤ 70 then some (b.toNat - 55) else none
def hexN (acc : Nat) : List UInt8 → Option Nat
 | [] => some acc
 | b :: t => match hexV b with
  | some d => hexN (acc * 16 + d) t
  | none => none
def codeM (l : List UInt8) : Option (Nat × Nat) :=
 match l with
 | [] => none
 | a :: r =>
  if a ≠ 123 then none else
   if ¬ (125 ∈ r) then none else
    let D := r.takeWhile (· != 125)
    if D.length < 1 ∨ 6 < D.length then none else
     match hexN 0 D with
     | none => none
     | some n => if n > 1114111 ∨ (55296 ≤ n ∧ n ≤ 57343) then none else some (n, D.length + 2)
def escM (l : List UInt8) : Option (Nat × Nat) :=
 match l with
 | [] => none
 | a :: r => if a = 110 then some (10, 1) else if a = 116 then some (9, 1) else if a = 34 ∨ a = 92 then some (a.toNat, 1) else if a = 117 then (codeM r).map fun x => (x.1, x.2 + 1) else none
def textF : Nat → Bool → List UInt8 → Nat × Bool × Bool
 | 0, r, _ => (0, false, r)
 | f + 1, r, l =>
  match l with
  | [] => (0, false, r)
  | a :: t =>
   if a = 10 then (0, false, r)
   else if a = 34 then (1, true, r)
   else if a = 92 then
    match escM t with
    | some (_, n) => ((textF f r (t.drop n)).1 + (1 + n), (textF f r (t.drop n)).2)
    | none =>
     let n := if t.isEmpty ∨ byteAt t 0 = 10 then 0 else (dec t).2
     ((textF f false (t.drop n)).1 + (1 + n), (textF f false (t.drop n)).2)
   else ((textF f r t).1 + 1, (textF f r t).2)
def textM (l : List UInt8) : Nat × Bool × Bool := textF l.length true l
def twoM (l : List UInt8) : Bool := [61, 62].isPrefixOf l || [61, 61].isPrefixOf l || [43, 43].isPrefixOf l
def signs : List UInt8 := [40, 41, 91, 93, 44, 59, 61, 60, 43, 45, 42, 46, 63]
def signM (l : List UInt8) : Nat := if twoM l then 2 else match l with
 | [] => 0
 | a :: _ => if signs.contains a then 1 else 0
def words : List (List UInt8) := [[117, 115, 101], [97, 115], [112, 117, 98], [100, 101, 102], [108, 101, 116], [105, 110], [105, 102], [116, 104, 101, 110], [101, 108, 115, 101], [102, 117, 110], [116, 114, 117, 101], [102, 97, 108, 115, 101]]
def wordM (l : List UInt8) : Bool := words.contains l
def oneM (l : List UInt8) : Nat × Nat :=
 if spaceB (dec l).1 then (1, run spaceB l)
 else if [45, 45].isPrefixOf l then (2, (l.takeWhile (· != 10)).length)
 else if [123, 45].isPrefixOf l then
  match remM 1 (l.drop 2) with
  | some k => (2, k + 2)
  | none => (8, l.length)
 else if letterB (dec l).1 then (if wordM (l.take (run bothB l)) then 4 else 3, run bothB l)
 else if digitB (dec l).1 then (if run digitB l ≤ 18 then 5 else 8, run digitB l)
 else if (dec l).1 = 34 then (if (textM (l.drop 1)).2.1 ∧ (textM (l.drop 1)).2.2 then 6 else 8, (textM (l.drop 1)).1 + 1)
 else if signM l > 0 then (7, signM l)
 else (8, (dec l).2)
def tokF : Nat → Nat → List UInt8 → List (Nat × Nat × Nat)
 | 0, _, _ => []
 | f + 1, at_, l => if l.isEmpty then [] else ((oneM l).1, at_, (oneM l).2) :: tokF f (at_ + (oneM l).2) (l.drop (oneM l).2)
end Go.Proofs.YtalklmeejdmifaaGreatDoor.Lx
