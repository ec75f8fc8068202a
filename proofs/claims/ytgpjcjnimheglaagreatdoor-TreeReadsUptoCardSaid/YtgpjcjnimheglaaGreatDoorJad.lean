/-
  JOINED of the texts WP WF WA WL LS
-/
import Derived.Test.YtgpjcjnimheglaaGreatDoorJac
import Derived.Lib.IndexMore
import Derived.Lib.IndexLaws
import Derived.Lib.Strings
import Derived.Lib.SlTrimSet
import Derived.Lib.ItoaNum
import Derived.Lib.Atoi
import Derived.Test.YtgpjcjnimheglaaGreatDoorJab
import Derived.Test.YtgpjcjnimheglaaGreatDoorShelfW
import Derived.Shelf.Strings.SlTrimAscii
import Derived.Lib.LaidTab
import Derived.Deep.AppendLies
import Derived.Deep.RegionHeld3
import Derived.Deep.DeepCutAuto
import Derived.Test.YtgpjcjnimheglaaGreatDoorRows
import Derived.WalkKit
import Derived.WalkSpells
import Derived.WalkLawsBesides
import Derived.Below
import Derived.Laws.OwnMore
import Derived.Deep.Draws
import Derived.Lib.Hide
import Derived.Deep.QuietTactic
import Derived.BigQuiet
import Derived.IntWalk
import Derived.Lib.AtoiAll
import Derived.Lib.RuneBytes
/-
  THE PLAIN LAW: what is framed comes out of the reader, however it is cut.
-/
namespace Go.Proofs.YtgpjcjnimheglaaGreatDoor.Wire
open Go.Lib

theorem dec_digits : ∀ (u : Nat), ∀ b ∈ decDigits u, ∃ d, d < 10 ∧ b = UInt8.ofNat (48 + d)
  | u => by
    intro b hb
    rw [decDigits] at hb
    split at hb
    · rename_i h; rw [List.mem_singleton] at hb; exact ⟨u, h, hb⟩
    · rename_i h
      rw [List.mem_append] at hb
      rcases hb with hb | hb
      · exact dec_digits (u / 10) b hb
      · rw [List.mem_singleton] at hb; exact ⟨u % 10, by omega, hb⟩
termination_by u => u

theorem digit_of {d : Nat} (h : d < 10) : digitVal (UInt8.ofNat (48 + d)) = some d := by
  have : (UInt8.ofNat (48 + d)).toNat = 48 + d := by simp [UInt8.toNat_ofNat']; omega
  unfold digitVal
  rw [this, if_pos (by omega)]
  congr 1; omega

theorem decFrom_snoc (l : List UInt8) (d : Nat) (h : d < 10) : ∀ acc n, decFrom acc l = some n → decFrom acc (l ++ [UInt8.ofNat (48 + d)]) = some (n * 10 + d) := by
  induction l with
  | nil => intro acc n hn; simp only [decFrom] at hn; injection hn with hn; subst hn; simp only [List.nil_append, decFrom, digit_of h]
  | cons b t ih =>
    intro acc n hn
    simp only [decFrom, List.cons_append] at hn ⊢
    cases hd : digitVal b with
    | none => rw [hd] at hn; simp at hn
    | some x => rw [hd] at hn; exact ih _ _ hn

theorem dec_back : ∀ (u : Nat), decFrom 0 (decDigits u) = some u
  | u => by
    rw [decDigits]
    split
    · rename_i h; simp only [decFrom, digit_of h]; simp
    · rename_i h
      rw [decFrom_snoc _ (u % 10) (by omega) 0 (u / 10) (dec_back (u / 10))]
      congr 1; omega
termination_by u => u

theorem nDigits_le : ∀ (k u : Nat), 1 ≤ k → u < 10 ^ k → nDigits u ≤ k
  | 0, _, h, _ => by omega
  | k + 1, u, _, h => by
    rw [nDigits]
    split
    · omega
    · rename_i h1
      by_cases hk : k = 0
      · subst hk; omega
      · have := nDigits_le k (u / 10) (by omega) (by rw [Nat.pow_succ] at h; omega)
        omega

theorem itoa_nat (n : Nat) : itoa (n : Int) = decDigits n := by unfold itoa; rw [if_neg (by omega)]; simp

theorem dgs_all {d : Nat} (h : d < 10) : dgs.contains (UInt8.ofNat (48 + d)) = true := by
  rcases (by omega : d = 0 ∨ d = 1 ∨ d = 2 ∨ d = 3 ∨ d = 4 ∨ d = 5 ∨ d = 6 ∨ d = 7 ∨ d = 8 ∨ d = 9) with rfl | rfl | rfl | rfl | rfl | rfl | rfl | rfl | rfl | rfl <;> decide

theorem no13 (n : Nat) : (13 : UInt8) ∉ hdc ++ decDigits n := by
  rw [List.mem_append]
  rintro (h | h)
  · revert h; decide
  · obtain ⟨d, hd, he⟩ := dec_digits n 13 h
    have := congrArg UInt8.toNat he
    simp [UInt8.toNat_ofNat'] at this
    omega

theorem trim_digits (n : Nat) : trimS (decDigits n) dgs = [] := by
  have h : trimRightS (decDigits n) dgs = (decDigits n).take 0 := trimRightS_take _ _ 0 (Nat.zero_le _) (fun j b _ hb => by
    obtain ⟨d, hd, rfl⟩ := dec_digits n b (List.mem_of_getElem? hb)
    exact dgs_all hd) (fun b h => by omega)
  unfold trimS
  rw [h]; rfl

theorem line_len (n : Nat) (h : n < 1000000000) (r : RS) : lineM (hdc ++ decDigits n) r = { r with len := n, err := 0 } := by
  have hl := decDigits_length n
  have h1 := nDigits_le 9 n (by omega) (by simpa using h)
  have h2 := nDigits_pos n
  have e16 : hdc.length = 16 := rfl
  have hdrop : (hdc ++ decDigits n).drop 16 = decDigits n := by
    rw [List.drop_append, show hdc.drop 16 = [] from rfl, e16]; simp
  have hB : lenB (hdc ++ decDigits n) = true := by
    unfold lenB
    rw [hdrop]
    have hp : hasPrefix (hdc ++ decDigits n) hdc = true := by unfold hasPrefix; simp
    rw [hp, trim_digits]
    simp; omega
  unfold lineM
  rw [if_neg (by rw [List.length_append, e16]; omega), if_neg (by simp [hdc]), if_pos hB, hdrop]
  unfold valD
  rw [dec_back]; rfl

inductive Ph (bs : List (List UInt8)) (r : RS) (U : List UInt8) : Prop
  | a (hb : r.body = false) (hl : r.len = -1) (h : r.rest ++ U = flat bs) : Ph bs r U
  | b (x : List UInt8) (t : List (List UInt8)) (e : bs = x :: t) (hb : r.body = false) (hl : r.len = (x.length : Nat)) (h : r.rest ++ U = 13 :: 10 :: x ++ flat t) : Ph bs r U
  | c (x : List UInt8) (t : List (List UInt8)) (e : bs = x :: t) (hb : r.body = true) (hl : r.len = (x.length : Nat)) (h : r.rest ++ U = x ++ flat t) : Ph bs r U

/-- A text that is shorter than a closed piece without the sign, and one sign more, has no line's end. -/
theorem cut_short (s U L V : List UInt8) (h : s ++ U = L ++ 13 :: 10 :: V) (hl : s.length < L.length + 2) (hn : (13 : UInt8) ∉ L) : cut s crlf = (s, [], false) :=
  cut_none s fun i h1 h2 => by
    have hi : i + 1 < s.length := by
      rcases Nat.lt_or_ge (i + 1) s.length with h | h
      · exact h
      · rw [List.getElem?_eq_none h] at h2; simp at h2
    have e : (s ++ U)[i]? = s[i]? := List.getElem?_append_left (by omega)
    rw [h, h1, List.getElem?_append_left (by omega)] at e
    exact hn (List.mem_of_getElem? e)

theorem cut_long (s U L V : List UInt8) (h : s ++ U = L ++ 13 :: 10 :: V) (hl : L.length + 2 ≤ s.length) (hn : (13 : UInt8) ∉ L) : ∃ s', cut s crlf = (L, s', true) ∧ s' ++ U = V := by
  have e : s = L ++ 13 :: 10 :: s.drop (L.length + 2) := by
    have h1 : s = (s ++ U).take s.length := by simp
    have h2 : s.take (L.length + 2) = L ++ [13, 10] := by
      have : s.take (L.length + 2) = (s ++ U).take (L.length + 2) := by rw [List.take_append_of_le_length hl]
      rw [this, h, show L ++ 13 :: 10 :: V = (L ++ [13, 10]) ++ V by simp, List.take_append_of_le_length (by simp), List.take_of_length_le (by simp)]
    conv => lhs; rw [← List.take_append_drop (L.length + 2) s, h2]
    simp
  refine ⟨s.drop (L.length + 2), ?_, ?_⟩
  · conv => lhs; rw [e]
    exact cut_at _ _ hn
  · rw [e] at h
    simp only [List.append_assoc, List.cons_append] at h
    have := List.append_cancel_left h
    simpa using this

theorem trim_le (s p : List UInt8) : (trimSuffix s p).length ≤ s.length := by
  unfold trimSuffix; split
  · simp
  · exact Nat.le_refl _

theorem miss_step (r : RS) (hb : r.body = false) (he : r.err = 0) (hc : cut r.rest crlf = (r.rest, [], false)) (hl : r.rest.length ≤ 1000) : stepM r = (r, none, false) := by
  obtain ⟨rest, len, body, err⟩ := r
  simp only at hb he hc hl
  subst hb he
  unfold stepM
  have := trim_le rest [13]
  simp only [Bool.false_eq_true, if_false, hc, if_true]
  rw [if_neg (by omega)]

theorem step_ph (bs : List (List UInt8)) (hs : ∀ b ∈ bs, b.length < 1000000000) (r : RS) (U : List UInt8) (he : r.err = 0) (h : Ph bs r U) :
    (stepM r).1.err = 0 ∧ (((stepM r).2.2 = false ∧ (stepM r).1 = r ∧ (U = [] → bs = [])) ∨ ((stepM r).2.2 = true ∧ ∃ bs', bs = (stepM r).2.1.toList ++ bs' ∧ Ph bs' (stepM r).1 U)) := by
  cases h with
  | a hb hl h =>
    cases bs with
    | nil =>
      have hr : r.rest = [] := by have := congrArg List.length h; simp [flat] at this; exact this.1
      have hm := miss_step r hb he (by rw [hr]; exact cut_none [] (by simp)) (by rw [hr]; simp)
      rw [hm]
      exact ⟨he, Or.inl ⟨rfl, rfl, fun _ => rfl⟩⟩
    | cons x t =>
      have hx := hs x (by simp)
      have hD := nDigits_le 9 x.length (by omega) (by simpa using hx)
      have hL := decDigits_length x.length
      have e16 : hdc.length = 16 := rfl
      have h' : r.rest ++ U = (hdc ++ decDigits x.length) ++ 13 :: 10 :: (13 :: 10 :: x ++ flat t) := by
        rw [h]
        simp [flat, frameL, itoa_nat, crlf]
      rcases Nat.lt_or_ge r.rest.length ((hdc ++ decDigits x.length).length + 2) with hlt | hge
      · have hm := miss_step r hb he (cut_short _ _ _ _ h' hlt (no13 _)) (by rw [List.length_append, e16] at hlt; omega)
        rw [hm]
        refine ⟨he, Or.inl ⟨rfl, rfl, fun hU => ?_⟩⟩
        subst hU
        have := congrArg List.length h'
        simp at this hlt
        omega
      · obtain ⟨s', hc, hs'⟩ := cut_long _ _ _ _ h' hge (no13 _)
        have hst : stepM r = ({ r with rest := s', len := (x.length : Nat), err := 0 }, none, true) := by
          unfold stepM
          simp only [hb, Bool.false_eq_true, if_false, hc]
          rw [line_len _ hx]
          simp
        rw [hst]
        exact ⟨rfl, Or.inr ⟨rfl, x :: t, rfl, .b x t rfl hb rfl hs'⟩⟩
  | b x t e hb hl h =>
    subst e
    rcases Nat.lt_or_ge r.rest.length 2 with hlt | hge
    · have hm := miss_step r hb he (cut_short _ _ [] _ h hlt (by simp)) (by omega)
      rw [hm]
      refine ⟨he, Or.inl ⟨rfl, rfl, fun hU => ?_⟩⟩
      subst hU
      have := congrArg List.length h
      simp at this
      omega
    · obtain ⟨s', hc, hs'⟩ := cut_long _ _ [] _ h hge (by simp)
      have hst : stepM r = ({ r with rest := s', body := true, err := 0 }, none, true) := by
        unfold stepM
        simp only [hb, Bool.false_eq_true, if_false, hc]
        unfold lineM
        simp [hl]
      rw [hst]
      exact ⟨rfl, Or.inr ⟨rfl, x :: t, rfl, .c x t rfl rfl hl hs'⟩⟩
  | c x t e hb hl h =>
    subst e
    unfold stepM
    simp only [hb, if_true]
    rcases Nat.lt_or_ge r.rest.length x.length with hlt | hge
    · rw [if_pos (by rw [hl]; omega)]
      refine ⟨he, Or.inl ⟨rfl, rfl, fun hU => ?_⟩⟩
      subst hU
      have := congrArg List.length h
      simp at this
      omega
    · rw [if_neg (by rw [hl]; omega)]
      have ht : r.rest.take r.len.toNat = x := by
        have : (r.rest ++ U).take x.length = x := by rw [h]; simp
        rw [List.take_append_of_le_length hge] at this
        rw [hl]; simpa using this
      have hd : r.rest.drop r.len.toNat ++ U = flat t := by
        have : (r.rest ++ U).drop x.length = flat t := by rw [h]; simp
        rw [List.drop_append_of_le_length hge] at this
        rw [hl]; simpa using this
      exact ⟨he, Or.inr ⟨rfl, t, by simp [ht], .a rfl rfl hd⟩⟩

theorem run_ph : ∀ (n : Nat) (bs : List (List UInt8)) (r : RS) (U : List UInt8) (o : List (List UInt8)), (∀ b ∈ bs, b.length < 1000000000) → r.err = 0 → Ph bs r U → phi r < n → r.good →
    (runM n r o).1.err = 0 ∧ (runM n r o).1.good ∧ ∃ l bs', (runM n r o).2 = o ++ l ∧ bs = l ++ bs' ∧ Ph bs' (runM n r o).1 U ∧ (U = [] → bs' = [])
  | 0, _, _, _, _, _, _, _, h, _ => by omega
  | n + 1, bs, r, U, o, hs, he, hp, hn, hg => by
    obtain ⟨h1, h2⟩ := step_ph bs hs r U he hp
    rcases h2 with ⟨hf, hr, hU⟩ | ⟨ht, bs', hbs, hp'⟩
    · rw [runM_stop _ _ _ hf]
      rw [hr]
      exact ⟨he, hg, [], bs, by simp, rfl, hp, hU⟩
    · have hphi := phi_step r hg ht
      have := run_ph n bs' (stepM r).1 U (o ++ (stepM r).2.1.toList) (fun b hb => hs b (by rw [hbs]; simp [hb])) h1 hp' (by omega) (good_step r hg ht)
      obtain ⟨k1, k2, l, bs'', k3, k4, k5, k6⟩ := this
      rw [runM, if_pos ht]
      exact ⟨k1, k2, (stepM r).2.1.toList ++ l, bs'', by rw [k3, List.append_assoc], by rw [hbs, k4, List.append_assoc], k5, k6⟩

theorem feed_ph (bs : List (List UInt8)) (hs : ∀ b ∈ bs, b.length < 1000000000) (r : RS) (c U : List UInt8) (he : r.err = 0) (hg : r.good) (hp : Ph bs r (c ++ U)) :
    (feedM r c).1.err = 0 ∧ (feedM r c).1.good ∧ ∃ bs', bs = (feedM r c).2 ++ bs' ∧ Ph bs' (feedM r c).1 U ∧ (U = [] → bs' = []) := by
  unfold feedM
  rw [if_pos he]
  have hp' : Ph bs { r with rest := r.rest ++ c } U := by
    cases hp with
    | a hb hl h => exact .a hb hl (by simpa using h)
    | b x t e hb hl h => exact .b x t e hb hl (by simpa using h)
    | c x t e hb hl h => exact .c x t e hb hl (by simpa using h)
  obtain ⟨k1, k2, l, bs', k3, k4, k5, k6⟩ := run_ph _ bs { r with rest := r.rest ++ c } U [] hs he hp' (Nat.lt_succ_self _) hg
  exact ⟨k1, k2, bs', by rw [k3, k4]; simp, k5, k6⟩

/-- A text cut at places: what the law's own function makes. -/
def cutsM (s : List UInt8) : Nat → List Int → List (List UInt8)
  | last, [] => [s.drop last]
  | last, c :: cs => if (last : Int) ≤ c ∧ c ≤ s.length then (s.take c.toNat).drop last :: cutsM s c.toNat cs else cutsM s last cs

theorem cutsM_flat (s : List UInt8) : ∀ (cs : List Int) (last : Nat), last ≤ s.length → (cutsM s last cs).flatten = s.drop last
  | [], last, _ => by simp [cutsM]
  | c :: cs, last, h => by
    unfold cutsM
    split
    · rename_i hc
      rw [List.flatten_cons, cutsM_flat s cs c.toNat (by omega)]
      have : s.drop last = (s.take c.toNat).drop last ++ s.drop c.toNat := by
        conv => lhs; rw [← List.take_append_drop c.toNat s]
        rw [List.drop_append_of_le_length (by rw [List.length_take]; omega)]
      exact this.symm
    · exact cutsM_flat s cs last h

theorem cutsM_ne (s : List UInt8) : ∀ (cs : List Int) (last : Nat), cutsM s last cs ≠ []
  | [], _ => by simp [cutsM]
  | c :: cs, last => by
    unfold cutsM
    split
    · simp
    · exact cutsM_ne s cs last

/-- The reader at the beginning. -/
def r0 : RS := ⟨[], -1, false, 0⟩
theorem r0_good : r0.good := ⟨by simp [r0], by simp [r0], fun h => by simp [r0] at h⟩
theorem r0_ph (bs : List (List UInt8)) : Ph bs r0 (flat bs) := .a rfl rfl rfl

/-- How long a frame is. -/
theorem frame_len (b : List UInt8) (h : b.length < 1000000000) : (frameL b).length ≤ b.length + 29 := by
  have h1 := nDigits_le 9 b.length (by omega) (by simpa using h)
  have h2 := decDigits_length b.length
  simp only [frameL, itoa_nat, List.length_append, crlf, List.length_cons, List.length_nil]
  have : hdc.length = 16 := rfl
  omega

theorem flat_len (bs : List (List UInt8)) (hs : ∀ b ∈ bs, b.length < 1000000000) : (flat bs).length ≤ (bs.map List.length).sum + 29 * bs.length := by
  induction bs with
  | nil => simp [flat]
  | cons b t ih =>
    have h1 := frame_len b (hs b (by simp))
    have h2 := ih fun x hx => hs x (by simp [hx])
    simp only [flat, List.map_cons, List.flatten_cons, List.length_append, List.sum_cons, List.length_cons] at *
    omega

end Go.Proofs.YtgpjcjnimheglaaGreatDoor.Wire
/-
  THE WALKS of wire.Frame, of the law's own cut, and of the reader's line.
-/
namespace Go.Proofs.YtgpjcjnimheglaaGreatDoor
open Go.RowKit
open Go.Lib (itoa decDigits_length)

/-- internal/bytealg.MaxLen holds some number -/
def MaxL (w : World) (m : Int) : Prop := w.cell? ⟨4, 0, none⟩ = some (.int .i64 m)
theorem MaxL.lt {w : World} {m : Int} (h : MaxL w m) : 4 < w.heap.size := World.block_lt_of_cell? w ⟨4, 0, none⟩ h
theorem MaxL.below {w w' : World} {B : Nat} {m : Int} (h : MaxL w m) (hb : Below B w w') (hB : 4 < B) : MaxL w' m := (hb.cell (p := ⟨4, 0, none⟩) hB).trans h
/-- the table of powers of ten -/
def Tab10 (w : World) : Prop := Lib.TabIs Tryz.prog w "internal/strconv.uint64pow10" .u64 Lib.pow10Tab
theorem g10 : Tryz.prog.globalNamed "internal/strconv.uint64pow10" = some 7 := by kernel_rfl
theorem Tab10.below {w w' : World} {B : Nat} (h : Tab10 w) (hb : Below B w w') (hB : 7 < B) : Tab10 w' := by
  unfold Tab10 Lib.TabIs World.var? at h ⊢
  rw [g10] at h ⊢
  simp only [Option.bind_some] at h ⊢
  rw [hb.block _ hB]; exact h

theorem below_grow (w : World) (os : Array Obj) : Below w.heap.size w (Go.Sort.grow w os) := by
  refine ⟨rfl, rfl, rfl, by simp [Go.Sort.grow], fun k hk => ?_⟩
  simp [Go.Sort.grow, Array.getElem?_append, hk]

theorem itoa_len (b : Bs) (h : b.length ≤ 1048576) : (itoa b.length).length ≤ 9 := by
  rw [Wire.itoa_nat, decDigits_length]
  exact Wire.nDigits_le 9 _ (by omega) (by omega)
def intV (l : List Int) : List Value := l.map fun n => .int .i64 n
theorem Rd.intv {w : World} {B : Nat} {A : Option Addr} {l : List Int} {k : Nat} (h : Rd w B 1 A l.length (intV l)) (hk : k < l.length) :
    ∃ b o, A = some ⟨b, o, none⟩ ∧ b < B ∧ w.cell? ⟨b, o + k, none⟩ = some (.int .i64 l[k]) := by
  obtain ⟨b, o, e, hb, hc⟩ := h.2 (by omega)
  exact ⟨b, o, e, hb, hc k _ (by simp [intV, List.getElem?_eq_getElem hk])⟩
theorem txtV_snoc (l : List Bs) (x : Bs) : txtV (l ++ [x]) = txtV l ++ [strV x] := by simp [txtV]
theorem cuts_len (s : Bs) : ∀ (cs : List Int) (last : Nat), (Wire.cutsM s last cs).length ≤ cs.length + 1
  | [], _ => by simp [Wire.cutsM]
  | c :: cs, last => by
    unfold Wire.cutsM
    split
    · have := cuts_len s cs c.toNat; simp; omega
    · have := cuts_len s cs last; simp; omega

end Go.Proofs.YtgpjcjnimheglaaGreatDoor
/-
  THE PLAIN LAW of a length: digits, read as a number.
-/
namespace Go.Proofs.YtgpjcjnimheglaaGreatDoor.Wire
open Go.Lib

theorem drop_nil (l cs : List UInt8) (h : l.dropWhile (cs.contains ·) = []) : ∀ b ∈ l, cs.contains b = true := by
  induction l with
  | nil => intro b hb; simp at hb
  | cons a t ih =>
    rw [List.dropWhile_cons] at h
    split at h
    · rename_i ha
      intro b hb
      rcases List.mem_cons.1 hb with rfl | hb
      · exact ha
      · exact ih h b hb
    · cases h
theorem drop_head (l cs : List UInt8) : ∀ a t, l.dropWhile (cs.contains ·) = a :: t → cs.contains a = false := by
  induction l with
  | nil => intro a t h; simp at h
  | cons x l ih =>
    intro a t h
    rw [List.dropWhile_cons] at h
    split at h
    · exact ih a t h
    · rename_i hx
      injection h with h1 _
      subst h1
      simpa using hx
theorem trim_nil (l cs : List UInt8) (h : trimS l cs = []) : ∀ b ∈ l, cs.contains b = true := by
  unfold trimS trimLeftS at h
  have h1 := drop_nil _ _ h
  unfold trimRightS at h1
  cases hd : l.reverse.dropWhile (cs.contains ·) with
  | nil =>
    intro b hb
    exact drop_nil _ _ hd b (List.mem_reverse.2 hb)
  | cons a t =>
    have h2 := drop_head _ _ a t hd
    rw [hd] at h1
    have h3 := h1 a (List.mem_reverse.2 (by simp))
    rw [h2] at h3; cases h3

theorem dg_val (b : UInt8) (h : dgs.contains b = true) : ∃ d, digitVal b = some d ∧ 48 ≤ b.toNat ∧ b.toNat ≤ 57 := by
  have hm : b ∈ dgs := by simpa using h
  simp only [dgs, List.mem_cons, List.mem_nil_iff, or_false] at hm
  rcases hm with rfl | rfl | rfl | rfl | rfl | rfl | rfl | rfl | rfl | rfl <;> exact ⟨_, rfl, by decide, by decide⟩
theorem decFrom_all : ∀ (l : List UInt8) (acc : Nat), (∀ b ∈ l, dgs.contains b = true) → ∃ n, decFrom acc l = some n ∧ acc ≤ n
  | [], acc, _ => ⟨acc, rfl, Nat.le_refl _⟩
  | b :: t, acc, h => by
    obtain ⟨d, hd, _⟩ := dg_val b (h b (by simp))
    obtain ⟨n, hn, hle⟩ := decFrom_all t (acc * 10 + d) fun x hx => h x (by simp [hx])
    exact ⟨n, by simp only [decFrom, hd]; exact hn, by omega⟩
theorem parse_dec : ∀ (l : List UInt8) (acc n : Nat), (∀ b ∈ l, dgs.contains b = true) → decFrom acc l = some n → n < 1000000000000000000 → parseUint10 acc l = .ok n
  | [], acc, n, _, h, _ => by simp only [decFrom] at h; injection h with h; subst h; rfl
  | b :: t, acc, n, hb, h, hn => by
    obtain ⟨d, hd, h1, h2⟩ := dg_val b (hb b (by simp))
    obtain ⟨_, _, hd2⟩ := digitVal_eq hd
    simp only [decFrom, hd] at h
    obtain ⟨m, hm, hle⟩ := decFrom_all t (acc * 10 + d) fun x hx => hb x (by simp [hx])
    rw [h] at hm; injection hm with hm; subst hm
    unfold parseUint10
    rw [if_pos ⟨h1, h2⟩, if_neg (by omega), if_neg (by omega), ← hd2]
    exact parse_dec t _ n (fun x hx => hb x (by simp [hx])) h hn

theorem atoi_digits (l : List UInt8) (h1 : 1 ≤ l.length) (h2 : l.length ≤ 10) (h3 : trimS l dgs = []) : atoiAll l = .ok (valD l) := by
  have hall := trim_nil l dgs h3
  obtain ⟨n, hn, _⟩ := decFrom_all l 0 hall
  have hlt := decFrom_lt l 0 n hn
  have h4 : 10 ^ l.length ≤ 10 ^ 10 := Nat.pow_le_pow_right (by omega) h2
  have hp := parse_dec l 0 n hall hn (by omega)
  cases l with
  | nil => simp at h1
  | cons c r =>
    obtain ⟨_, _, k1, k2⟩ := dg_val c (hall c (by simp))
    unfold atoiAll
    simp only
    rw [if_neg (by omega)]
    unfold parseMag
    rw [if_neg (by simp), hp]
    simp only
    rw [if_neg (by omega), if_neg (by omega), if_neg (by omega)]
    unfold valD
    rw [hn]; rfl
end Go.Proofs.YtgpjcjnimheglaaGreatDoor.Wire
/-
  THE WALK of the reader's line.
-/
namespace Go.Proofs.YtgpjcjnimheglaaGreatDoor
open Go.RowKit

def rdC (r : Wire.RS) : Array Value := #[strV r.rest, .int .i64 r.len, .bool r.body, .int .i64 r.err]
def Oth1 (p : Nat) (w w' : World) : Prop := ∀ b, b < w.heap.size → b ≠ p → w'.heap[b]? = w.heap[b]?
theorem Oth1.trans {p : Nat} {w w1 w2 : World} (h : Oth1 p w w1) (h' : Oth1 p w1 w2) (hs : w.heap.size ≤ w1.heap.size) : Oth1 p w w2 := fun b hb hn => (h' b (by omega) hn).trans (h b hb hn)
theorem Oth1.set {p : Nat} (w : World) (j : Nat) (u : Value) : Oth1 p w (w.setCell ⟨p, j, none⟩ u) := fun b _ hn => Below.heap_setCell w ⟨p, j, none⟩ u b hn
theorem Oth1.below {p : Nat} {w w' : World} (h : Below w.heap.size w w') : Oth1 p w w' := fun b hb _ => h.block b hb
theorem Oth1.refl (p : Nat) (w : World) : Oth1 p w w := fun _ _ _ => rfl

theorem trim_walk (s : Bs) (w : World) (hs : s.length ≤ 100000000) : Calls Tryz.prog 164 #[.string ⟨s.toArray⟩, .string ⟨#[48, 49, 50, 51, 52, 53, 54, 55, 56, 57]⟩] w fun e w' => e = .returned (.string ⟨(Lib.trimS s Wire.dgs).toArray⟩) ∧ Below w.heap.size w w' :=
  Any.strings_Trim_laid Tryz.lays160 (by kernel_rfl) ⟨s.toArray⟩ ⟨#[48, 49, 50, 51, 52, 53, 54, 55, 56, 57]⟩ w (by rw [mk_size]; omega) (by decide) (ascii_of_all (by decide))
theorem atoi_walk (s : Bs) (w : World) (h1 : 1 ≤ s.length) (h2 : s.length ≤ 10) (h3 : Lib.trimS s Wire.dgs = []) : Calls Tryz.prog 127 #[.string ⟨s.toArray⟩] w fun e w' => e = .returned (.tuple #[.int .i64 (Wire.valD s), .nilIface]) ∧ Below w.heap.size w w' :=
  (Tryz.strconv_Atoi_ok ⟨s.toArray⟩ (by rw [mk_size]; omega) (Wire.valD s) (Wire.atoi_digits s h1 h2 h3) w).mono fun e w' h => by
    refine ⟨h.1, ?_⟩
    rcases h.2 with rfl | ⟨t, rfl⟩
    · exact Below.refl _ _
    · exact Lib.bytesWorld_below _ _ _
theorem scut_walk (s : Bs) (m : Int) (w : World) (hM : MaxL w m) (hs : s.length ≤ 100000000) : Calls Tryz.prog 109 #[.string ⟨s.toArray⟩, .string ⟨#[58]⟩] w fun e w' => e = .returned (.tuple #[.string ⟨(Lib.cut s [58]).1.toArray⟩, .string ⟨(Lib.cut s [58]).2.1.toArray⟩, .bool (Lib.cut s [58]).2.2]) ∧ ∃ n, w' = w.drewN n :=
  Tryz.strings_Cut ⟨s.toArray⟩ ⟨#[58]⟩ m w (by rw [mk_size]; omega) hM
theorem lcut_walk (s : Bs) (m : Int) (w : World) (hM : MaxL w m) (hs : s.length ≤ 100000000) : Calls Tryz.prog 109 #[.string ⟨s.toArray⟩, .string ⟨#[13, 10]⟩] w fun e w' => e = .returned (.tuple #[.string ⟨(Lib.cut s Wire.crlf).1.toArray⟩, .string ⟨(Lib.cut s Wire.crlf).2.1.toArray⟩, .bool (Lib.cut s Wire.crlf).2.2]) ∧ ∃ n, w' = w.drewN n :=
  Tryz.strings_Cut ⟨s.toArray⟩ ⟨#[13, 10]⟩ m w (by rw [mk_size]; omega) hM
end Go.Proofs.YtgpjcjnimheglaaGreatDoor
/-
  THE PLAIN LAW of tokens, the program's way: cutting at a byte, digits of sixteen, signs, words.
-/
namespace Go.Proofs.YtgpjcjnimheglaaGreatDoor.Lx
open Go.Lib

theorem occ1 (c : UInt8) (s : List UInt8) (i : Nat) : occAt s [c] i = true ↔ s[i]? = some c := by
  unfold occAt
  have h0 : (s.drop i)[0]? = s[i]? := by rw [List.getElem?_drop]; rfl
  rcases h : s.drop i with _ | ⟨a, t⟩
  · rw [h] at h0; simp only [List.getElem?_nil] at h0; rw [← h0]; simp [List.isPrefixOf]
  · rw [h] at h0
    simp only [List.getElem?_cons_zero] at h0
    rw [← h0]
    simp [List.isPrefixOf]
    exact ⟨fun h => h.symm, fun h => h.symm⟩
theorem tw_before (c : UInt8) : ∀ (l : List UInt8) (k : Nat), k < (l.takeWhile (· != c)).length → ∃ b, l[k]? = some b ∧ b ≠ c
  | [], k, h => by simp at h
  | a :: t, k, h => by
    by_cases ha : a = c
    · subst ha; simp at h
    · have h1 : (a != c) = true := by simp [ha]
      rw [List.takeWhile_cons, if_pos h1, List.length_cons] at h
      cases k with
      | zero => exact ⟨a, rfl, ha⟩
      | succ k =>
        obtain ⟨b, hb, hn⟩ := tw_before c t k (by omega)
        exact ⟨b, by simpa using hb, hn⟩
theorem tw_at (c : UInt8) : ∀ (l : List UInt8), c ∈ l → l[(l.takeWhile (· != c)).length]? = some c
  | [], h => by simp at h
  | a :: t, h => by
    by_cases ha : a = c
    · subst ha; simp
    · have h1 : (a != c) = true := by simp [ha]
      rw [List.takeWhile_cons, if_pos h1, List.length_cons]
      have := tw_at c t ((List.mem_cons.1 h).resolve_left fun e => ha e.symm)
      simpa using this
theorem tw_take (c : UInt8) (l : List UInt8) : l.take (l.takeWhile (· != c)).length = l.takeWhile (· != c) := by
  conv => lhs; rw [← List.takeWhile_append_dropWhile (p := (· != c)) (l := l)]
  rw [List.take_append_of_le_length (by simp), List.take_of_length_le (by simp)]
theorem tw_all (c : UInt8) : ∀ (l : List UInt8), c ∉ l → l.takeWhile (· != c) = l
  | [], _ => rfl
  | a :: t, h => by
    rw [List.mem_cons, not_or] at h
    have h1 : (a != c) = true := by simp; exact fun e => h.1 e.symm
    rw [List.takeWhile_cons, if_pos h1, tw_all c t h.2]
/-- cut at a byte -/
theorem cut_byte (c : UInt8) (l : List UInt8) : (cut l [c]).1 = l.takeWhile (· != c) ∧ (cut l [c]).2.2 = decide (c ∈ l) := by
  by_cases h : c ∈ l
  · have hlen : (l.takeWhile (· != c)).length ≤ l.length := (List.takeWhile_sublist _).length_le
    have hi : index l [c] = ((l.takeWhile (· != c)).length : Nat) := index_first hlen ((occ1 c _ _).2 (tw_at c l h)) fun j hj => by
      cases ho : occAt l [c] j with
      | false => rfl
      | true =>
        obtain ⟨b, hb, hn⟩ := tw_before c l j hj
        rw [(occ1 c _ _).1 ho] at hb
        injection hb with hb
        exact absurd hb.symm hn
    unfold cut
    rw [hi, if_pos (by omega), decide_eq_true h]
    exact ⟨tw_take c l, rfl⟩
  · have hi : index l [c] = -1 := index_none fun j _ => by
      cases ho : occAt l [c] j with
      | false => rfl
      | true => exact absurd (List.mem_of_getElem? ((occ1 c _ _).1 ho)) h
    have hw : l.takeWhile (· != c) = l := tw_all c l h
    unfold cut
    rw [hi, hw, decide_eq_false h]
    exact ⟨rfl, rfl⟩

def hexs : List UInt8 := [48, 49, 50, 51, 52, 53, 54, 55, 56, 57, 97, 98, 99, 100, 101, 102, 65, 66, 67, 68, 69, 70]
theorem hexs_fin : ∀ i : Fin 256, hexs.contains (UInt8.ofNat i.val) = (hexV (UInt8.ofNat i.val)).isSome := by decide +kernel
theorem hexs_iff (b : UInt8) : hexs.contains b = (hexV b).isSome := by
  have := hexs_fin ⟨b.toNat, b.toNat_lt⟩
  simpa using this
theorem drop_nil (l cs : List UInt8) (h : l.dropWhile (cs.contains ·) = []) : ∀ b ∈ l, cs.contains b = true := by
  induction l with
  | nil => intro b hb; simp at hb
  | cons a t ih =>
    rw [List.dropWhile_cons] at h
    split at h
    · rename_i ha
      intro b hb
      rcases List.mem_cons.1 hb with rfl | hb
      · exact ha
      · exact ih h b hb
    · cases h
theorem drop_head (l cs : List UInt8) : ∀ a t, l.dropWhile (cs.contains ·) = a :: t → cs.contains a = false := by
  induction l with
  | nil => intro a t h; simp at h
  | cons x l ih =>
    intro a t h
    rw [List.dropWhile_cons] at h
    split at h
    · exact ih a t h
    · rename_i hx
      injection h with h1 _
      subst h1
      simpa using hx
theorem trim_nil (l cs : List UInt8) (h : trimS l cs = []) : ∀ b ∈ l, cs.contains b = true := by
  unfold trimS trimLeftS at h
  have h1 := drop_nil _ _ h
  unfold trimRightS at h1
  cases hd : l.reverse.dropWhile (cs.contains ·) with
  | nil =>
    intro b hb
    exact drop_nil _ _ hd b (List.mem_reverse.2 hb)
  | cons a t =>
    have h2 := drop_head _ _ a t hd
    rw [hd] at h1
    have h3 := h1 a (List.mem_reverse.2 (by simp))
    rw [h2] at h3; cases h3
theorem trim_all (l cs : List UInt8) (h : ∀ b ∈ l, cs.contains b = true) : trimS l cs = [] := by
  have h1 : trimRightS l cs = l.take 0 := trimRightS_take _ _ 0 (Nat.zero_le _) (fun j b _ hb => h b (List.mem_of_getElem? hb)) (fun b h => by omega)
  unfold trimS
  rw [h1]; rfl
theorem hexN_of_all : ∀ (l : List UInt8) (a : Nat), (∀ b ∈ l, ∃ d, hexV b = some d) → ∃ n, hexN a l = some n
  | [], a, _ => ⟨a, rfl⟩
  | b :: t, a, h => by
    obtain ⟨d, hd⟩ := h b (by simp)
    obtain ⟨n, hn⟩ := hexN_of_all t (a * 16 + d) fun x hx => h x (by simp [hx])
    exact ⟨n, by simp only [hexN, hd]; exact hn⟩
theorem hexN_lt : ∀ (t : List UInt8) (a m : Nat), hexN a t = some m → m < (a + 1) * 16 ^ t.length := by
  intro t
  induction t with
  | nil => intro a m h; simp only [hexN] at h; injection h with h; subst h; simp
  | cons b t ih =>
    intro a m h
    simp only [hexN] at h
    cases hb : hexV b with
    | none => rw [hb] at h; simp at h
    | some x =>
      rw [hb] at h
      have h3 := ih _ _ h
      have h4 := (hex_no b x hb).2.2.2.2
      have h5 : (a * 16 + x + 1) * 16 ^ t.length ≤ (a + 1) * 16 * 16 ^ t.length := Nat.mul_le_mul_right _ (by omega)
      rw [List.length_cons, Nat.pow_succ, Nat.mul_comm (16 ^ t.length) 16, ← Nat.mul_assoc]
      omega
theorem hex_way (D : List UInt8) : (trimS D hexs = [] ∧ (∀ b ∈ D, ∃ d, hexV b = some d) ∧ ∃ n, hexN 0 D = some n) ∨ (trimS D hexs ≠ [] ∧ hexN 0 D = none) := by
  by_cases h : trimS D hexs = []
  · have h1 : ∀ b ∈ D, ∃ d, hexV b = some d := fun b hb => by
      have := trim_nil D hexs h b hb
      rw [hexs_iff] at this
      exact Option.isSome_iff_exists.1 this
    exact .inl ⟨h, h1, hexN_of_all D 0 h1⟩
  · refine .inr ⟨h, ?_⟩
    cases hn : hexN 0 D with
    | none => rfl
    | some n =>
      exfalso
      apply h
      refine trim_all D hexs fun b hb => ?_
      obtain ⟨d, hd⟩ := hexN_all D 0 n hn b hb
      rw [hexs_iff, hd]; rfl

/-- the first line -/
theorem line_cut (l : List UInt8) : (cut l [10]).1.length = (l.takeWhile (· != 10)).length := by rw [(cut_byte 10 l).1]
theorem ix_sign (b : UInt8) : (decide (0 ≤ indexByte signs b)) = signs.contains b := by
  have h : ∀ i : Fin 256, (decide (0 ≤ indexByte signs (UInt8.ofNat i.val))) = signs.contains (UInt8.ofNat i.val) := by decide +kernel
  have := h ⟨b.toNat, b.toNat_lt⟩
  simpa using this
end Go.Proofs.YtgpjcjnimheglaaGreatDoor.Lx
