/-
  VALUES OF MESSAGES AS TREES: what is printed of them, plainly.
-/
import Derived.Test.YtgpjcjnimheglaaGreatDoorLQ
import Derived.Lib.ItoaNum
namespace Go.Proofs.YtgpjcjnimheglaaGreatDoor

/-- a value of a message -/
inductive JT where
  | mk (kind num : Int) (text : List UInt8) (keys : List (List UInt8)) (kids : List JT)
namespace JT
def kind : JT → Int | mk k _ _ _ _ => k
def num : JT → Int | mk _ n _ _ _ => n
def text : JT → List UInt8 | mk _ _ t _ _ => t
def keys : JT → List (List UInt8) | mk _ _ _ ks _ => ks
def kids : JT → List JT | mk _ _ _ _ l => l
def keyW (ks : List (List UInt8)) : Nat := (ks.map fun k => 6 * k.length + 8).sum
mutual
/-- bounds what is printed of it -/
def wt : JT → Nat
  | mk _ _ t ks l => 40 + 6 * t.length + keyW ks + wts l
def wts : List JT → Nat
  | [] => 0
  | j :: l => wt j + 2 + wts l
end
theorem wt_eq (j : JT) : j.wt = 40 + 6 * j.text.length + keyW j.keys + wts j.kids := by cases j; simp only [wt, text, keys, kids]
end JT

/-- what a byte is quoted as in a message -/
def jquB (c : UInt8) : List UInt8 :=
  if c = 34 ∨ c = 92 then [92, c] else if c = 10 then [92, 110] else if c = 13 then [92, 114] else if c = 9 then [92, 116] else if c.toNat < 32 then [92, 117, 48, 48, Lx.hexD (c.toNat / 16), Lx.hexD (c.toNat % 16)] else [c]
def jquI (s : List UInt8) : List UInt8 := s.flatMap jquB
def jquM (s : List UInt8) : List UInt8 := 34 :: (jquI s ++ [34])
theorem jquB_len (c : UInt8) : (jquB c).length ≤ 6 := by
  have h : ∀ i : Fin 256, (jquB (UInt8.ofNat i.val)).length ≤ 6 := by decide +kernel
  have := h ⟨c.toNat, c.toNat_lt⟩
  simpa using this
theorem jquI_len (s : List UInt8) : (jquI s).length ≤ 6 * s.length := by
  induction s with
  | nil => exact Nat.le_refl _
  | cons c s ih =>
    have e : jquI (c :: s) = jquB c ++ jquI s := by simp [jquI]
    have := jquB_len c
    rw [e, List.length_append, List.length_cons]; omega
theorem jquM_len (s : List UInt8) : (jquM s).length ≤ 6 * s.length + 2 := by
  have := jquI_len s
  simp only [jquM, List.length_cons, List.length_append, List.length_nil]; omega

/-- has a value just what its kind has? -/
def jright (j : JT) : Bool :=
  if j.kind = 0 then decide (j.num = 0) && decide (j.text = []) && decide (j.keys.length = 0) && decide (j.kids.length = 0)
  else if j.kind = 1 then decide (j.num = 0 ∨ j.num = 1) && decide (j.text = []) && decide (j.keys.length = 0) && decide (j.kids.length = 0)
  else if j.kind = 2 then decide (-999999999999999999 ≤ j.num ∧ j.num ≤ 999999999999999999) && decide (j.text = []) && decide (j.keys.length = 0) && decide (j.kids.length = 0)
  else if j.kind = 3 then decide (j.num = 0) && decide (j.keys.length = 0) && decide (j.kids.length = 0)
  else if j.kind = 4 then decide (j.num = 0) && decide (j.text = []) && decide (j.keys.length = 0)
  else if j.kind = 5 then decide (j.num = 0) && decide (j.text = []) && decide (j.keys.length = j.kids.length)
  else false

/-- what stands between the signs of a list or a map, from the i-th on -/
def itemsM (f : JT → Nat × List UInt8) (m : Bool) (keys : List (List UInt8)) : Nat → List JT → Nat × List UInt8
  | _, [] => (0, [])
  | i, k :: ks =>
    if m = true ∧ keys.getD i [] ∈ keys.take i then (5, [])
    else if (f k).1 ≠ 0 then ((f k).1, [])
    else ((itemsM f m keys (i + 1) ks).1, (if i = 0 then [] else [44]) ++ (if m then jquM (keys.getD i []) ++ [58] else []) ++ (f k).2 ++ (itemsM f m keys (i + 1) ks).2)
/-- the text of a value in which so many levels are left, or what is wrong -/
def printM : Nat → JT → Nat × List UInt8
  | r, j =>
    if jright j = false then (3, [])
    else if j.kind = 0 then (0, [110, 117, 108, 108])
    else if j.kind = 1 then (0, if j.num = 1 then [116, 114, 117, 101] else [102, 97, 108, 115, 101])
    else if j.kind = 2 then (0, Lib.itoa j.num)
    else if j.kind = 3 then (0, jquM j.text)
    else
      match r with
      | 0 => (12, [])
      | r + 1 =>
        let m := decide (j.kind = 5)
        if (itemsM (printM r) m j.keys 0 j.kids).1 ≠ 0 then ((itemsM (printM r) m j.keys 0 j.kids).1, [])
        else (0, (if m then [123] else [91]) ++ (itemsM (printM r) m j.keys 0 j.kids).2 ++ (if m then [125] else [93]))
end Go.Proofs.YtgpjcjnimheglaaGreatDoor
