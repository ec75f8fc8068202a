/-
  TOKENS AS FUNCTIONS ON LISTS OF BYTES: what the program's scanner reckons, and the document's.
-/
import Derived.Test.YtgpjcjnimheglaaGreatDoorDec
namespace Go.Proofs.YtgpjcjnimheglaaGreatDoor.Lx

def letterB (c : Nat) : Bool := (decide (97 ≤ c) && decide (c ≤ 122) || decide (65 ≤ c) && decide (c ≤ 90) || c == 95) || (decide (192 ≤ c) && decide (c ≤ 591) && (c != 215 && c != 247)) || (decide (880 ≤ c) && decide (c ≤ 1023)) || (decide (1024 ≤ c) && decide (c ≤ 1279))
def digitB (c : Nat) : Bool := decide (48 ≤ c) && decide (c ≤ 57)
def spaceB (c : Nat) : Bool := c == 9 || c == 10 || c == 13 || c == 32
def bothB (c : Nat) : Bool := letterB c || digitB c

/-- how many bytes the characters have with which a text begins and of which p holds -/
def runF (p : Nat → Bool) : Nat → List UInt8 → Nat
  | 0, _ => 0
  | f + 1, l => if l.isEmpty then 0 else if p (dec l).1 then (dec l).2 + runF p f (l.drop (dec l).2) else 0
def run (p : Nat → Bool) (l : List UInt8) : Nat := runF p l.length l

theorem runF_fuel (p : Nat → Bool) : ∀ (f g : Nat) (l : List UInt8), l.length ≤ f → l.length ≤ g → runF p f l = runF p g l
  | 0, 0, _, _, _ => rfl
  | 0, g + 1, l, h, _ => by
    have : l = [] := List.eq_nil_of_length_eq_zero (by omega)
    subst this; simp [runF]
  | f + 1, 0, l, _, h => by
    have : l = [] := List.eq_nil_of_length_eq_zero (by omega)
    subst this; simp [runF]
  | f + 1, g + 1, l, h1, h2 => by
    simp only [runF]
    cases hl : l.isEmpty with
    | true => rfl
    | false =>
      have hd := dec_size l
      rw [runF_fuel p f g (l.drop (dec l).2) (by rw [List.length_drop]; omega) (by rw [List.length_drop]; omega)]
theorem run_nil (p : Nat → Bool) : run p [] = 0 := rfl
theorem run_go (p : Nat → Bool) {l : List UInt8} (hl : l ≠ []) (hp : p (dec l).1 = true) : run p l = (dec l).2 + run p (l.drop (dec l).2) := by
  have hd := dec_size l
  have h0 : 0 < l.length := List.length_pos_iff.2 hl
  unfold run
  obtain ⟨f, hf⟩ : ∃ f, l.length = f + 1 := ⟨l.length - 1, by omega⟩
  rw [hf]
  simp only [runF]
  rw [if_neg (by simpa using hl), if_pos hp, runF_fuel p f (l.drop (dec l).2).length _ (by rw [List.length_drop]; omega) (by omega)]
theorem run_stop (p : Nat → Bool) {l : List UInt8} (hp : p (dec l).1 = false) : run p l = 0 := by
  unfold run
  cases l.length with
  | zero => rfl
  | succ f => simp only [runF]; rw [if_neg (by simp [hp] : ¬ p (dec l).1 = true)]; split <;> rfl
theorem run_le (p : Nat → Bool) : ∀ (n : Nat) (l : List UInt8), l.length = n → run p l ≤ l.length := by
  intro n
  induction n using Nat.strongRecOn with
  | _ n ih =>
    intro l hl
    by_cases h0 : l = []
    · subst h0; simp [run_nil]
    · cases hp : p (dec l).1 with
      | false => rw [run_stop p hp]; omega
      | true =>
        have hd := dec_size l
        have hle := dec_le l h0
        have := ih (l.drop (dec l).2).length (by rw [List.length_drop]; have := List.length_pos_iff.2 h0; omega) _ rfl
        rw [run_go p h0 hp]
        rw [List.length_drop] at this
        omega
/-- of a property of bytes: byte for byte -/
theorem run_ascii (p : Nat → Bool) (h : ∀ c, 128 ≤ c → p c = false) : ∀ l : List UInt8, run p l = (l.takeWhile fun b => p b.toNat).length
  | [] => rfl
  | b :: t => by
    have hb : byteAt (b :: t) 0 = b.toNat := rfl
    rcases Nat.lt_or_ge b.toNat 128 with h1 | h1
    · have hd : dec (b :: t) = (b.toNat, 1) := by rw [dec_small (by rw [hb]; exact h1), hb]
      cases hp : p b.toNat with
      | true =>
        rw [run_go p (by simp) (by rw [hd]; exact hp), hd]
        simp only [List.takeWhile_cons, hp, if_true, List.length_cons, List.drop_succ_cons, List.drop_zero]
        rw [run_ascii p h t]; omega
      | false =>
        rw [run_stop p (by rw [hd]; exact hp)]
        simp [hp]
    · rw [run_stop p (h _ (dec_big (by rw [hb]; exact h1)))]
      simp [h _ h1]

/-- behind the signs that open a remark within d - 1 others: how many bytes to its end -/
def remM : Nat → List UInt8 → Option Nat
  | _, [] => none
  | _, [_] => none
  | d, a :: b :: t =>
    if a = 123 ∧ b = 45 then (remM (d + 1) t).map (· + 2)
    else if a = 45 ∧ b = 125 then (if d = 1 then some 2 else (remM (d - 1) t).map (· + 2))
    else (remM d (b :: t)).map (· + 1)

def hexV (b : UInt8) : Option Nat :=
  if 48 ≤ b.toNat ∧ b.toNat ≤ 57 then some (b.toNat - 48) else if 97 ≤ b.toNat ∧ b.toNat ≤ 102 then some (b.toNat - 87) else if 65 ≤ b.toNat ∧ b.toNat ≤ 70 then some (b.toNat - 55) else none
def hexN (acc : Nat) : List UInt8 → Option Nat
  | [] => some acc
  | b :: t => match hexV b with
    | some d => hexN (acc * 16 + d) t
    | none => none

/-- the code point of an escape behind its \u, and how many bytes it has -/
def codeM (l : List UInt8) : Option (Nat × Nat) :=
  match l with
  | [] => none
  | a :: r =>
    if a ≠ 123 then none else
      if ¬ (125 ∈ r) then none else
        let D := r.takeWhile (· != 125)
        if D.length < 1 ∨ 6 < D.length then none else
          match hexN 0 D with
          | none => none
          | some n => if n > 1114111 ∨ (55296 ≤ n ∧ n ≤ 57343) then none else some (n, D.length + 2)
/-- what an escape stands for, behind its \, and how many bytes it has -/
def escM (l : List UInt8) : Option (Nat × Nat) :=
  match l with
  | [] => none
  | a :: r => if a = 110 then some (10, 1) else if a = 116 then some (9, 1) else if a = 34 ∨ a = 92 then some (a.toNat, 1) else if a = 117 then (codeM r).map fun x => (x.1, x.2 + 1) else none

/-- behind the sign that opens a text: how many bytes to its end; is it closed; are its escapes right -/
def textF : Nat → Bool → List UInt8 → Nat × Bool × Bool
  | 0, r, _ => (0, false, r)
  | f + 1, r, l =>
    match l with
    | [] => (0, false, r)
    | a :: t =>
      if a = 10 then (0, false, r)
      else if a = 34 then (1, true, r)
      else if a = 92 then
        match escM t with
        | some (_, n) => ((textF f r (t.drop n)).1 + (1 + n), (textF f r (t.drop n)).2)
        | none =>
          let n := if t.isEmpty ∨ byteAt t 0 = 10 then 0 else (dec t).2
          ((textF f false (t.drop n)).1 + (1 + n), (textF f false (t.drop n)).2)
      else ((textF f r t).1 + 1, (textF f r t).2)
def textM (l : List UInt8) : Nat × Bool × Bool := textF l.length true l

def twoM (l : List UInt8) : Bool := [61, 62].isPrefixOf l || [61, 61].isPrefixOf l || [43, 43].isPrefixOf l
def signs : List UInt8 := [40, 41, 91, 93, 44, 59, 61, 60, 43, 45, 42, 46, 63]
def signM (l : List UInt8) : Nat := if twoM l then 2 else match l with
  | [] => 0
  | a :: _ => if signs.contains a then 1 else 0

def words : List (List UInt8) := [[117, 115, 101], [97, 115], [112, 117, 98], [100, 101, 102], [108, 101, 116], [105, 110], [105, 102], [116, 104, 101, 110], [101, 108, 115, 101], [102, 117, 110], [116, 114, 117, 101], [102, 97, 108, 115, 101]]
def wordM (l : List UInt8) : Bool := words.contains l

/-- the kind of the token with which a text begins, and how many bytes it has -/
def oneM (l : List UInt8) : Nat × Nat :=
  if spaceB (dec l).1 then (1, run spaceB l)
  else if [45, 45].isPrefixOf l then (2, (l.takeWhile (· != 10)).length)
  else if [123, 45].isPrefixOf l then
    match remM 1 (l.drop 2) with
    | some k => (2, k + 2)
    | none => (8, l.length)
  else if letterB (dec l).1 then (if wordM (l.take (run bothB l)) then 4 else 3, run bothB l)
  else if digitB (dec l).1 then (if run digitB l ≤ 18 then 5 else 8, run digitB l)
  else if (dec l).1 = 34 then (if (textM (l.drop 1)).2.1 ∧ (textM (l.drop 1)).2.2 then 6 else 8, (textM (l.drop 1)).1 + 1)
  else if signM l > 0 then (7, signM l)
  else (8, (dec l).2)

def tokF : Nat → Nat → List UInt8 → List (Nat × Nat × Nat)
  | 0, _, _ => []
  | f + 1, at_, l => if l.isEmpty then [] else ((oneM l).1, at_, (oneM l).2) :: tokF f (at_ + (oneM l).2) (l.drop (oneM l).2)
def tokM (l : List UInt8) : List (Nat × Nat × Nat) := tokF l.length 0 l

end Go.Proofs.YtgpjcjnimheglaaGreatDoor.Lx
