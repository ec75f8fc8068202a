/-
  THE READER OF FRAMES AS A FUNCTION ON LISTS OF BYTES, and the plain law: what is framed comes out, however it is cut.
-/
import Derived.Lib.IndexMore
import Derived.Lib.IndexLaws
import Derived.Lib.Strings
import Derived.Lib.SlTrimSet
import Derived.Lib.ItoaNum
import Derived.Lib.Atoi
namespace Go.Proofs.YtgpjcjnimheglaaGreatDoor.Wire
open Go.Lib

def crlf : List UInt8 := [13, 10]
def hd : List UInt8 := [67, 111, 110, 116, 101, 110, 116, 45, 76, 101, 110, 103, 116, 104]
def hdc : List UInt8 := [67, 111, 110, 116, 101, 110, 116, 45, 76, 101, 110, 103, 116, 104, 58, 32]
def dgs : List UInt8 := [48, 49, 50, 51, 52, 53, 54, 55, 56, 57]
def frameL (b : List UInt8) : List UInt8 := hdc ++ itoa b.length ++ crlf ++ crlf ++ b
def flat (bs : List (List UInt8)) : List UInt8 := (bs.map frameL).flatten

structure RS where
  rest : List UInt8
  len : Int
  body : Bool
  err : Int

/-- Is a line one that tells a length? -/
def lenB (s : List UInt8) : Bool :=
  hasPrefix s hdc && (decide (1 ≤ (s.drop 16).length) && (decide ((s.drop 16).length ≤ 10) && (trimS (s.drop 16) dgs).isEmpty))
def valD (l : List UInt8) : Int := ((decFrom 0 l).getD 0 : Nat)

def lineM (s : List UInt8) (r : RS) : RS :=
  if 1000 < s.length then { r with err := 12 }
  else if s.isEmpty then { r with body := true, err := if r.len < 0 then 3 else 0 }
  else if lenB s then { r with len := valD (s.drop 16), err := 0 }
  else if (cut s [58]).2.2 = false ∨ (cut s [58]).1 = hd then { r with err := 3 }
  else { r with err := 0 }

def stepM (r : RS) : RS × Option (List UInt8) × Bool :=
  if r.body then
    if (r.rest.length : Int) < r.len then (r, none, false)
    else ({ r with rest := r.rest.drop r.len.toNat, body := false, len := -1 }, some (r.rest.take r.len.toNat), true)
  else if (cut r.rest crlf).2.2 = false then
    ({ r with err := if 1000 < (trimSuffix r.rest [13]).length then 12 else r.err }, none, false)
  else (lineM (cut r.rest crlf).1 { r with rest := (cut r.rest crlf).2.1 }, none, (lineM (cut r.rest crlf).1 { r with rest := (cut r.rest crlf).2.1 }).err == 0)

def runM : Nat → RS → List (List UInt8) → RS × List (List UInt8)
  | 0, r, o => (r, o)
  | n + 1, r, o => if (stepM r).2.2 then runM n (stepM r).1 (o ++ (stepM r).2.1.toList) else ((stepM r).1, o)

def phi (r : RS) : Nat := 2 * r.rest.length + if r.body then 1 else 0

def feedM (r : RS) (c : List UInt8) : RS × List (List UInt8) :=
  if r.err = 0 then runM (phi { r with rest := r.rest ++ c } + 1) { r with rest := r.rest ++ c } [] else (r, [])

/-- What a reader is ahead of a step. -/
def RS.good (r : RS) : Prop := -1 ≤ r.len ∧ r.len ≤ 9999999999 ∧ (r.body = true → 0 ≤ r.len)

theorem occ_iff (s : List UInt8) (i : Nat) : occAt s crlf i = true ↔ s[i]? = some 13 ∧ s[i + 1]? = some 10 := by
  unfold occAt crlf
  have h0 : (s.drop i)[0]? = s[i]? := by rw [List.getElem?_drop]; rfl
  have h1 : (s.drop i)[1]? = s[i + 1]? := by rw [List.getElem?_drop]
  rcases h : s.drop i with _ | ⟨a, _ | ⟨b, t⟩⟩
  · rw [h] at h0 h1
    simp only [List.getElem?_nil] at h0 h1
    rw [← h0, ← h1]; simp [List.isPrefixOf]
  · rw [h] at h0 h1
    simp only [List.getElem?_cons_zero, List.getElem?_cons_succ, List.getElem?_nil] at h0 h1
    rw [← h0, ← h1]; simp [List.isPrefixOf]
  · rw [h] at h0 h1
    simp only [List.getElem?_cons_zero, List.getElem?_cons_succ] at h0 h1
    rw [← h0, ← h1]
    simp [List.isPrefixOf]
    constructor <;> rintro ⟨h, h'⟩ <;> exact ⟨h.symm, h'.symm⟩

theorem cut_at (a b : List UInt8) (h : (13 : UInt8) ∉ a) : cut (a ++ 13 :: 10 :: b) crlf = (a, b, true) := by
  have hi : index (a ++ 13 :: 10 :: b) crlf = (a.length : Nat) := by
    refine index_first (by simp) ((occ_iff _ _).2 ⟨by simp, ?_⟩) fun j hj => ?_
    · rw [List.getElem?_append_right (by omega)]; simp
    · cases ho : occAt (a ++ 13 :: 10 :: b) crlf j with
      | false => rfl
      | true =>
        have := ((occ_iff _ _).1 ho).1
        rw [List.getElem?_append_left hj] at this
        exact absurd (List.mem_of_getElem? this) h
  unfold cut
  rw [hi, if_pos (by omega)]
  refine Prod.ext ?_ (Prod.ext ?_ rfl)
  · simp
  · simp [crlf, List.drop_append]

theorem cut_none (s : List UInt8) (h : ∀ i : Nat, s[i]? = some (13 : UInt8) → s[i + 1]? = some (10 : UInt8) → False) : cut s crlf = (s, [], false) := by
  have hi : index s crlf = -1 := index_none fun j _ => by
    cases ho : occAt s crlf j with
    | false => rfl
    | true => exact absurd ((occ_iff _ _).1 ho).2 (fun h2 => h j ((occ_iff _ _).1 ho).1 h2)
  unfold cut
  rw [hi]; rfl

theorem cut_len (s : List UInt8) (h : (cut s crlf).2.2 = true) : (cut s crlf).1.length + 2 + (cut s crlf).2.1.length = s.length := by
  unfold cut at h ⊢
  split
  · rename_i h0
    have := index_room s crlf h0
    have e : crlf.length = 2 := rfl
    rw [e] at this ⊢
    simp only [List.length_take, List.length_drop]
    omega
  · rename_i h0
    rw [if_neg h0] at h; simp at h

theorem lineM_rest (s : List UInt8) (r : RS) : (lineM s r).rest = r.rest := by
  unfold lineM; split
  · rfl
  · split
    · rfl
    · split
      · rfl
      · split <;> rfl

theorem phi_step (r : RS) (_h : r.good) (ht : (stepM r).2.2 = true) : phi (stepM r).1 < phi r := by
  unfold stepM at ht ⊢
  cases hb : r.body with
  | true =>
    rw [hb] at ht
    simp only [if_true] at ht ⊢
    split
    · rename_i h1; rw [if_pos h1] at ht; simp at ht
    · simp only [phi, hb, List.length_drop]
      simp
      omega
  | false =>
    rw [hb] at ht
    simp only [Bool.false_eq_true, if_false] at ht ⊢
    split
    · rename_i h1; rw [if_pos h1] at ht; simp at ht
    · rename_i h1
      have hl := cut_len r.rest (by simpa using h1)
      simp only [phi, lineM_rest, hb]
      split <;> simp <;> omega

theorem runM_fuel : ∀ (n m : Nat) (r : RS) (o : List (List UInt8)), (∀ r : RS, r.good → (stepM r).2.2 = true → (stepM r).1.good) → r.good → phi r < n → phi r < m → runM n r o = runM m r o
  | 0, _, _, _, _, _, h, _ => by omega
  | _ + 1, 0, _, _, _, _, _, h => by omega
  | n + 1, m + 1, r, o, hg, h0, h1, h2 => by
    simp only [runM]
    cases ht : (stepM r).2.2 with
    | false => rfl
    | true =>
      simp only [if_true]
      have := phi_step r h0 ht
      exact runM_fuel n m _ _ hg (hg r h0 ht) (by omega) (by omega)

theorem valD_bound (l : List UInt8) (h : l.length ≤ 10) : 0 ≤ valD l ∧ valD l ≤ 9999999999 := by
  unfold valD
  cases hd : decFrom 0 l with
  | none => simp
  | some n =>
    have := decFrom_lt l 0 n hd
    have h2 : 10 ^ l.length ≤ 10 ^ 10 := Nat.pow_le_pow_right (by omega) h
    simp
    omega

theorem lenB_parts {s : List UInt8} (h : lenB s = true) : hasPrefix s hdc = true ∧ 1 ≤ (s.drop 16).length ∧ (s.drop 16).length ≤ 10 ∧ trimS (s.drop 16) dgs = [] := by
  simp only [lenB, Bool.and_eq_true, decide_eq_true_eq, List.isEmpty_iff] at h
  exact h

theorem good_line (s : List UInt8) (r : RS) (h : -1 ≤ r.len ∧ r.len ≤ 9999999999) (hb : r.body = false) (he : (lineM s r).err = 0) : (lineM s r).good := by
  unfold lineM at he ⊢
  split
  · rename_i h1; rw [if_pos h1] at he; simp at he
  · rename_i h1; rw [if_neg h1] at he
    split
    · rename_i h2; rw [if_pos h2] at he
      refine ⟨h.1, h.2, fun _ => ?_⟩
      simp only at he ⊢
      by_cases h3 : r.len < 0
      · rw [if_pos h3] at he; omega
      · omega
    · rename_i h2; rw [if_neg h2] at he
      split
      · rename_i h3
        have hv := valD_bound (s.drop 16) (lenB_parts h3).2.2.1
        exact ⟨by show -1 ≤ valD _; omega, hv.2, fun hb' => by rw [show (RS.body _) = r.body from rfl, hb] at hb'; cases hb'⟩
      · split
        · rename_i h3 h4; rw [if_neg h3, if_pos h4] at he; simp at he
        · exact ⟨h.1, h.2, fun hb' => by rw [show (RS.body _) = r.body from rfl, hb] at hb'; cases hb'⟩

theorem good_step (r : RS) (h : r.good) (ht : (stepM r).2.2 = true) : (stepM r).1.good := by
  unfold stepM at ht ⊢
  cases hb : r.body with
  | true =>
    rw [hb] at ht
    simp only [if_true] at ht ⊢
    split
    · rename_i h1; rw [if_pos h1] at ht; simp at ht
    · exact ⟨by simp, by simp, fun h => by simp at h⟩
  | false =>
    rw [hb] at ht
    simp only [Bool.false_eq_true, if_false] at ht ⊢
    split
    · rename_i h1; rw [if_pos h1] at ht; simp at ht
    · rename_i h1; rw [if_neg h1] at ht
      exact good_line _ _ ⟨h.1, h.2.1⟩ rfl (by simpa using ht)

theorem runM_step (r : RS) (o : List (List UInt8)) (h : r.good) (ht : (stepM r).2.2 = true) : runM (phi (stepM r).1 + 1) (stepM r).1 (o ++ (stepM r).2.1.toList) = runM (phi r + 1) r o := by
  have h1 := phi_step r h ht
  conv => rhs; rw [runM, if_pos ht]
  exact runM_fuel _ _ _ _ good_step (good_step r h ht) (by omega) (by omega)

theorem runM_stop (r : RS) (o : List (List UInt8)) (n : Nat) (ht : (stepM r).2.2 = false) : runM (n + 1) r o = ((stepM r).1, o) := by
  rw [runM, if_neg (by simp [ht])]

end Go.Proofs.YtgpjcjnimheglaaGreatDoor.Wire
