/-
  JOINED of the texts WP WF WL LS LF
-/
import Derived.Test.YtalklmeejdmifaaGreatDoorJac
import Derived.Lib.IndexMore
import Derived.Lib.IndexLaws
import Derived.Lib.Strings
import Derived.Lib.SlTrimSet
import Derived.Lib.ItoaNum
import Derived.Lib.Atoi
import Derived.Test.YtalklmeejdmifaaGreatDoorJab
import Derived.Test.YtalklmeejdmifaaGreatDoorShelfW
import Derived.Shelf.Strings.SlTrimAscii
import Derived.Lib.LaidTab
import Derived.Deep.AppendLies
import Derived.Deep.RegionHeld3
import Derived.Deep.DeepCutAuto
import Derived.Test.YtalklmeejdmifaaGreatDoorRows
import Derived.WalkKit
import Derived.WalkSpells
import Derived.WalkLawsBesides
import Derived.Below
import Derived.Laws.OwnMore
import Derived.Deep.Draws
import Derived.Lib.Hide
import Derived.Deep.QuietTactic
import Derived.BigQuiet
import Derived.IntWalk
import Derived.Lib.AtoiAll
import Derived.Lib.RuneBytes
import Derived.Lib.ConvBytes
import Derived.Laws.Strings3
import Derived.Laws.Closers25
import Derived.Laws.Closers25b
import Derived.BigCall
import Derived.BigGuard
import Derived.Test.YtalklmeejdmifaaGreatDoorShelfX
import Derived.Shelf.Spec.BytesIndexFunc
/-
  THE PLAIN LAW: what is framed comes out of the reader, however it is cut.
-/
namespace Go.Proofs.YtalklmeejdmifaaGreatDoor.Wire
open Go.Lib

theorem dec_digits : ∀ (u : Nat), ∀ b ∈ decDigits u, ∃ d, d < 10 ∧ b = UInt8.ofNat (48 + d)
  | u => by
    intro b hb
    rw [decDigits] at hb
    split at hb
    · rename_i h; rw [List.mem_singleton] at hb; exact ⟨u, h, hb⟩
    · rename_i h
      rw [List.mem_append] at hb
      rcases hb with hb | hb
      · exact dec_digits (u / 10) b hb
      · rw [List.mem_singleton] at hb; exact ⟨u % 10, by omega, hb⟩
termination_by u => u

theorem digit_of {d : Nat} (h : d < 10) : digitVal (UInt8.ofNat (48 + d)) = some d := by
  have : (UInt8.ofNat (48 + d)).toNat = 48 + d := by simp [UInt8.toNat_ofNat']; omega
  unfold digitVal
  rw [this, if_pos (by omega)]
  congr 1; omega

theorem decFrom_snoc (l : List UInt8) (d : Nat) (h : d < 10) : ∀ acc n, decFrom acc l = some n → decFrom acc (l ++ [UInt8.ofNat (48 + d)]) = some (n * 10 + d) := by
  induction l with
  | nil => intro acc n hn; simp only [decFrom] at hn; injection hn with hn; subst hn; simp only [List.nil_append, decFrom, digit_of h]
  | cons b t ih =>
    intro acc n hn
    simp only [decFrom, List.cons_append] at hn ⊢
    cases hd : digitVal b with
    | none => rw [hd] at hn; simp at hn
    | some x => rw [hd] at hn; exact ih _ _ hn

theorem dec_back : ∀ (u : Nat), decFrom 0 (decDigits u) = some u
  | u => by
    rw [decDigits]
    split
    · rename_i h; simp only [decFrom, digit_of h]; simp
    · rename_i h
      rw [decFrom_snoc _ (u % 10) (by omega) 0 (u / 10) (dec_back (u / 10))]
      congr 1; omega
termination_by u => u

theorem nDigits_le : ∀ (k u : Nat), 1 ≤ k → u < 10 ^ k → nDigits u ≤ k
  | 0, _, h, _ => by omega
  | k + 1, u, _, h => by
    rw [nDigits]
    split
    · omega
    · rename_i h1
      by_cases hk : k = 0
      · subst hk; omega
      · have := nDigits_le k (u / 10) (by omega) (by rw [Nat.pow_succ] at h; omega)
        omega

theorem itoa_nat (n : Nat) : itoa (n : Int) = decDigits n := by unfold itoa; rw [if_neg (by omega)]; simp

theorem dgs_all {d : Nat} (h : d < 10) : dgs.contains (UInt8.ofNat (48 + d)) = true := by
  rcases (by omega : d = 0 ∨ d = 1 ∨ d = 2 ∨ d = 3 ∨ d = 4 ∨ d = 5 ∨ d = 6 ∨ d = 7 ∨ d = 8 ∨ d = 9) with rfl | rfl | rfl | rfl | rfl | rfl | rfl | rfl | rfl | rfl <;> decide

theorem no13 (n : Nat) : (13 : UInt8) ∉ hdc ++ decDigits n := by
  rw [List.mem_append]
  rintro (h | h)
  · revert h; decide
  · obtain ⟨d, hd, he⟩ := dec_digits n 13 h
    have := congrArg UInt8.toNat he
    simp [UInt8.toNat_ofNat'] at this
    omega

theorem trim_digits (n : Nat) : trimS (decDigits n) dgs = [] := by
  have h : trimRightS (decDigits n) dgs = (decDigits n).take 0 := trimRightS_take _ _ 0 (Nat.zero_le _) (fun j b _ hb => by
    obtain ⟨d, hd, rfl⟩ := dec_digits n b (List.mem_of_getElem? hb)
    exact dgs_all hd) (fun b h => by omega)
  unfold trimS
  rw [h]; rfl

theorem line_len (n : Nat) (h : n < 1000000000) (r : RS) : lineM (hdc ++ decDigits n) r = { r with len := n, err := 0 } := by
  have hl := decDigits_length n
  have h1 := nDigits_le 9 n (by omega) (by simpa using h)
  have h2 := nDigits_pos n
  have e16 : hdc.length = 16 := rfl
  have hdrop : (hdc ++ decDigits n).drop 16 = decDigits n := by
    rw [List.drop_append, show hdc.drop 16 = [] from rfl, e16]; simp
  have hB : lenB (hdc ++ decDigits n) = true := by
    unfold lenB
    rw [hdrop]
    have hp : hasPrefix (hdc ++ decDigits n) hdc = true := by unfold hasPrefix; simp
    rw [hp, trim_digits]
    simp; omega
  unfold lineM
  rw [if_neg (by rw [List.length_append, e16]; omega), if_neg (by simp [hdc]), if_pos hB, hdrop]
  unfold valD
  rw [dec_back]; rfl

inductive Ph (bs : List (List UInt8)) (r : RS) (U : List UInt8) : Prop
  | a (hb : r.body = false) (hl : r.len = -1) (h : r.rest ++ U = flat bs) : Ph bs r U
  | b (x : List UInt8) (t : List (List UInt8)) (e : bs = x :: t) (hb : r.body = false) (hl : r.len = (x.length : Nat)) (h : r.rest ++ U = 13 :: 10 :: x ++ flat t) : Ph bs r U
  | c (x : List UInt8) (t : List (List UInt8)) (e : bs = x :: t) (hb : r.body = true) (hl : r.len = (x.length : Nat)) (h : r.rest ++ U = x ++ flat t) : Ph bs r U

/-- A text that is shorter than a closed piece without the sign, and one sign more, has no line's end. -/
theorem cut_short (s U L V : List UInt8) (h : s ++ U = L ++ 13 :: 10 :: V) (hl : s.length < L.length + 2) (hn : (13 : UInt8) ∉ L) : cut s crlf = (s, [], false) :=
  cut_none s fun i h1 h2 => by
    have hi : i + 1 < s.length := by
      rcases Nat.lt_or_ge (i + 1) s.length with h | h
      · exact h
      · rw [List.getElem?_eq_none h] at h2; simp at h2
    have e : (s ++ U)[i]? = s[i]? := List.getElem?_append_left (by omega)
    rw [h, h1, List.getElem?_append_left (by omega)] at e
    exact hn (List.mem_of_getElem? e)

theorem cut_long (s U L V : List UInt8) (h : s ++ U = L ++ 13 :: 10 :: V) (hl : L.length + 2 ≤ s.length) (hn : (13 : UInt8) ∉ L) : ∃ s', cut s crlf = (L, s', true) ∧ s' ++ U = V := by
  have e : s = L ++ 13 :: 10 :: s.drop (L.length + 2) := by
    have h1 : s = (s ++ U).take s.length := by simp
    have h2 : s.take (L.length + 2) = L ++ [13, 10] := by
      have : s.take (L.length + 2) = (s ++ U).take (L.length + 2) := by rw [List.take_append_of_le_length hl]
      rw [this, h, show L ++ 13 :: 10 :: V = (L ++ [13, 10]) ++ V by simp, List.take_append_of_le_length (by simp), List.take_of_length_le (by simp)]
    conv => lhs; rw [← List.take_append_drop (L.length + 2) s, h2]
    simp
  refine ⟨s.drop (L.length + 2), ?_, ?_⟩
  · conv => lhs; rw [e]
    exact cut_at _ _ hn
  · rw [e] at h
    simp only [List.append_assoc, List.cons_append] at h
    have := List.append_cancel_left h
    simpa using this

theorem trim_le (s p : List UInt8) : (trimSuffix s p).length ≤ s.length := by
  unfold trimSuffix; split
  · simp
  · exact Nat.le_refl _

theorem miss_step (r : RS) (hb : r.body = false) (he : r.err = 0) (hc : cut r.rest crlf = (r.rest, [], false)) (hl : r.rest.length ≤ 1000) : stepM r = (r, none, false) := by
  obtain ⟨rest, len, body, err⟩ := r
  simp only at hb he hc hl
  subst hb he
  unfold stepM
  have := trim_le rest [13]
  simp only [Bool.false_eq_true, if_false, hc, if_true]
  rw [if_neg (by omega)]

theorem step_ph (bs : List (List UInt8)) (hs : ∀ b ∈ bs, b.length < 1000000000) (r : RS) (U : List UInt8) (he : r.err = 0) (h : Ph bs r U) :
    (stepM r).1.err = 0 ∧ (((stepM r).2.2 = false ∧ (stepM r).1 = r ∧ (U = [] → bs = [])) ∨ ((stepM r).2.2 = true ∧ ∃ bs', bs = (stepM r).2.1.toList ++ bs' ∧ Ph bs' (stepM r).1 U)) := by
  cases h with
  | a hb hl h =>
    cases bs with
    | nil =>
      have hr : r.rest = [] := by have := congrArg List.length h; simp [flat] at this; exact this.1
      have hm := miss_step r hb he (by rw [hr]; exact cut_none [] (by simp)) (by rw [hr]; simp)
      rw [hm]
      exact ⟨he, Or.inl ⟨rfl, rfl, fun _ => rfl⟩⟩
    | cons x t =>
      have hx := hs x (by simp)
      have hD := nDigits_le 9 x.length (by omega) (by simpa using hx)
      have hL := decDigits_length x.length
      have e16 : hdc.length = 16 := rfl
      have h' : r.rest ++ U = (hdc ++ decDigits x.length) ++ 13 :: 10 :: (13 :: 10 :: x ++ flat t) := by
        rw [h]
        simp [flat, frameL, itoa_nat, crlf]
      rcases Nat.lt_or_ge r.rest.length ((hdc ++ decDigits x.length).length + 2) with hlt | hge
      · have hm := miss_step r hb he (cut_short _ _ _ _ h' hlt (no13 _)) (by rw [List.length_append, e16] at hlt; omega)
        rw [hm]
        refine ⟨he, Or.inl ⟨rfl, rfl, fun hU => ?_⟩⟩
        subst hU
        have := congrArg List.length h'
        simp at this hlt
        omega
      · obtain ⟨s', hc, hs'⟩ := cut_long _ _ _ _ h' hge (no13 _)
        have hst : stepM r = ({ r with rest := s', len := (x.length : Nat), err := 0 }, none, true) := by
          unfold stepM
          simp only [hb, Bool.false_eq_true, if_false, hc]
          rw [line_len _ hx]
          simp
        rw [hst]
        exact ⟨rfl, Or.inr ⟨rfl, x :: t, rfl, .b x t rfl hb rfl hs'⟩⟩
  | b x t e hb hl h =>
    subst e
    rcases Nat.lt_or_ge r.rest.length 2 with hlt | hge
    · have hm := miss_step r hb he (cut_short _ _ [] _ h hlt (by simp)) (by omega)
      rw [hm]
      refine ⟨he, Or.inl ⟨rfl, rfl, fun hU => ?_⟩⟩
      subst hU
      have := congrArg List.length h
      simp at this
      omega
    · obtain ⟨s', hc, hs'⟩ := cut_long _ _ [] _ h hge (by simp)
      have hst : stepM r = ({ r with rest := s', body := true, err := 0 }, none, true) := by
        unfold stepM
        simp only [hb, Bool.false_eq_true, if_false, hc]
        unfold lineM
        simp [hl]
      rw [hst]
      exact ⟨rfl, Or.inr ⟨rfl, x :: t, rfl, .c x t rfl rfl hl hs'⟩⟩
  | c x t e hb hl h =>
    subst e
    unfold stepM
    simp only [hb, if_true]
    rcases Nat.lt_or_ge r.rest.length x.length with hlt | hge
    · rw [if_pos (by rw [hl]; omega)]
      refine ⟨he, Or.inl ⟨rfl, rfl, fun hU => ?_⟩⟩
      subst hU
      have := congrArg List.length h
      simp at this
      omega
    · rw [if_neg (by rw [hl]; omega)]
      have ht : r.rest.take r.len.toNat = x := by
        have : (r.rest ++ U).take x.length = x := by rw [h]; simp
        rw [List.take_append_of_le_length hge] at this
        rw [hl]; simpa using this
      have hd : r.rest.drop r.len.toNat ++ U = flat t := by
        have : (r.rest ++ U).drop x.length = flat t := by rw [h]; simp
        rw [List.drop_append_of_le_length hge] at this
        rw [hl]; simpa using this
      exact ⟨he, Or.inr ⟨rfl, t, by simp [ht], .a rfl rfl hd⟩⟩

theorem run_ph : ∀ (n : Nat) (bs : List (List UInt8)) (r : RS) (U : List UInt8) (o : List (List UInt8)), (∀ b ∈ bs, b.length < 1000000000) → r.err = 0 → Ph bs r U → phi r < n → r.good →
    (runM n r o).1.err = 0 ∧ (runM n r o).1.good ∧ ∃ l bs', (runM n r o).2 = o ++ l ∧ bs = l ++ bs' ∧ Ph bs' (runM n r o).1 U ∧ (U = [] → bs' = [])
  | 0, _, _, _, _, _, _, _, h, _ => by omega
  | n + 1, bs, r, U, o, hs, he, hp, hn, hg => by
    obtain ⟨h1, h2⟩ := step_ph bs hs r U he hp
    rcases h2 with ⟨hf, hr, hU⟩ | ⟨ht, bs', hbs, hp'⟩
    · rw [runM_stop _ _ _ hf]
      rw [hr]
      exact ⟨he, hg, [], bs, by simp, rfl, hp, hU⟩
    · have hphi := phi_step r hg ht
      have := run_ph n bs' (stepM r).1 U (o ++ (stepM r).2.1.toList) (fun b hb => hs b (by rw [hbs]; simp [hb])) h1 hp' (by omega) (good_step r hg ht)
      obtain ⟨k1, k2, l, bs'', k3, k4, k5, k6⟩ := this
      rw [runM, if_pos ht]
      exact ⟨k1, k2, (stepM r).2.1.toList ++ l, bs'', by rw [k3, List.append_assoc], by rw [hbs, k4, List.append_assoc], k5, k6⟩

theorem feed_ph (bs : List (List UInt8)) (hs : ∀ b ∈ bs, b.length < 1000000000) (r : RS) (c U : List UInt8) (he : r.err = 0) (hg : r.good) (hp : Ph bs r (c ++ U)) :
    (feedM r c).1.err = 0 ∧ (feedM r c).1.good ∧ ∃ bs', bs = (feedM r c).2 ++ bs' ∧ Ph bs' (feedM r c).1 U ∧ (U = [] → bs' = []) := by
  unfold feedM
  rw [if_pos he]
  have hp' : Ph bs { r with rest := r.rest ++ c } U := by
    cases hp with
    | a hb hl h => exact .a hb hl (by simpa using h)
    | b x t e hb hl h => exact .b x t e hb hl (by simpa using h)
    | c x t e hb hl h => exact .c x t e hb hl (by simpa using h)
  obtain ⟨k1, k2, l, bs', k3, k4, k5, k6⟩ := run_ph _ bs { r with rest := r.rest ++ c } U [] hs he hp' (Nat.lt_succ_self _) hg
  exact ⟨k1, k2, bs', by rw [k3, k4]; simp, k5, k6⟩

/-- A text cut at places: what the law's own function makes. -/
def cutsM (s : List UInt8) : Nat → List Int → List (List UInt8)
  | last, [] => [s.drop last]
  | last, c :: cs => if (last : Int) ≤ c ∧ c ≤ s.length then (s.take c.toNat).drop last :: cutsM s c.toNat cs else cutsM s last cs

theorem cutsM_flat (s : List UInt8) : ∀ (cs : List Int) (last : Nat), last ≤ s.length → (cutsM s last cs).flatten = s.drop last
  | [], last, _ => by simp [cutsM]
  | c :: cs, last, h => by
    unfold cutsM
    split
    · rename_i hc
      rw [List.flatten_cons, cutsM_flat s cs c.toNat (by omega)]
      have : s.drop last = (s.take c.toNat).drop last ++ s.drop c.toNat := by
        conv => lhs; rw [← List.take_append_drop c.toNat s]
        rw [List.drop_append_of_le_length (by rw [List.length_take]; omega)]
      exact this.symm
    · exact cutsM_flat s cs last h

theorem cutsM_ne (s : List UInt8) : ∀ (cs : List Int) (last : Nat), cutsM s last cs ≠ []
  | [], _ => by simp [cutsM]
  | c :: cs, last => by
    unfold cutsM
    split
    · simp
    · exact cutsM_ne s cs last

/-- The reader at the beginning. -/
def r0 : RS := ⟨[], -1, false, 0⟩
theorem r0_good : r0.good := ⟨by simp [r0], by simp [r0], fun h => by simp [r0] at h⟩
theorem r0_ph (bs : List (List UInt8)) : Ph bs r0 (flat bs) := .a rfl rfl rfl

/-- How long a frame is. -/
theorem frame_len (b : List UInt8) (h : b.length < 1000000000) : (frameL b).length ≤ b.length + 29 := by
  have h1 := nDigits_le 9 b.length (by omega) (by simpa using h)
  have h2 := decDigits_length b.length
  simp only [frameL, itoa_nat, List.length_append, crlf, List.length_cons, List.length_nil]
  have : hdc.length = 16 := rfl
  omega

theorem flat_len (bs : List (List UInt8)) (hs : ∀ b ∈ bs, b.length < 1000000000) : (flat bs).length ≤ (bs.map List.length).sum + 29 * bs.length := by
  induction bs with
  | nil => simp [flat]
  | cons b t ih =>
    have h1 := frame_len b (hs b (by simp))
    have h2 := ih fun x hx => hs x (by simp [hx])
    simp only [flat, List.map_cons, List.flatten_cons, List.length_append, List.sum_cons, List.length_cons] at *
    omega

end Go.Proofs.YtalklmeejdmifaaGreatDoor.Wire
/-
  THE WALKS of wire.Frame, of the law's own cut, and of the reader's line.
-/
namespace Go.Proofs.YtalklmeejdmifaaGreatDoor
open Go.RowKit
open Go.Lib (itoa decDigits_length)

/-- internal/bytealg.MaxLen holds some number -/
def MaxL (w : World) (m : Int) : Prop := w.cell? ⟨2, 0, none⟩ = some (.int .i64 m)
theorem MaxL.lt {w : World} {m : Int} (h : MaxL w m) : 2 < w.heap.size := World.block_lt_of_cell? w ⟨2, 0, none⟩ h
theorem MaxL.below {w w' : World} {B : Nat} {m : Int} (h : MaxL w m) (hb : Below B w w') (hB : 2 < B) : MaxL w' m := (hb.cell (p := ⟨2, 0, none⟩) hB).trans h
/-- the table of powers of ten -/
def Tab10 (w : World) : Prop := Lib.TabIs Tryz.prog w "internal/strconv.uint64pow10" .u64 Lib.pow10Tab
theorem g10 : Tryz.prog.globalNamed "internal/strconv.uint64pow10" = some 7 := by kernel_rfl
theorem Tab10.below {w w' : World} {B : Nat} (h : Tab10 w) (hb : Below B w w') (hB : 7 < B) : Tab10 w' := by
  unfold Tab10 Lib.TabIs World.var? at h ⊢
  rw [g10] at h ⊢
  simp only [Option.bind_some] at h ⊢
  rw [hb.block _ hB]; exact h

theorem below_grow (w : World) (os : Array Obj) : Below w.heap.size w (Go.Sort.grow w os) := by
  refine ⟨rfl, rfl, rfl, by simp [Go.Sort.grow], fun k hk => ?_⟩
  simp [Go.Sort.grow, Array.getElem?_append, hk]

theorem itoa_len (b : Bs) (h : b.length ≤ 1048576) : (itoa b.length).length ≤ 9 := by
  rw [Wire.itoa_nat, decDigits_length]
  exact Wire.nDigits_le 9 _ (by omega) (by omega)
def intV (l : List Int) : List Value := l.map fun n => .int .i64 n
theorem Rd.intv {w : World} {B : Nat} {A : Option Addr} {l : List Int} {k : Nat} (h : Rd w B 1 A l.length (intV l)) (hk : k < l.length) :
    ∃ b o, A = some ⟨b, o, none⟩ ∧ b < B ∧ w.cell? ⟨b, o + k, none⟩ = some (.int .i64 l[k]) := by
  obtain ⟨b, o, e, hb, hc⟩ := h.2 (by omega)
  exact ⟨b, o, e, hb, hc k _ (by simp [intV, List.getElem?_eq_getElem hk])⟩
theorem txtV_snoc (l : List Bs) (x : Bs) : txtV (l ++ [x]) = txtV l ++ [strV x] := by simp [txtV]
theorem cuts_len (s : Bs) : ∀ (cs : List Int) (last : Nat), (Wire.cutsM s last cs).length ≤ cs.length + 1
  | [], _ => by simp [Wire.cutsM]
  | c :: cs, last => by
    unfold Wire.cutsM
    split
    · have := cuts_len s cs c.toNat; simp; omega
    · have := cuts_len s cs last; simp; omega

end Go.Proofs.YtalklmeejdmifaaGreatDoor
/-
  THE WALK of the reader's line.
-/
namespace Go.Proofs.YtalklmeejdmifaaGreatDoor
open Go.RowKit

def rdC (r : Wire.RS) : Array Value := #[strV r.rest, .int .i64 r.len, .bool r.body, .int .i64 r.err]
def Oth1 (p : Nat) (w w' : World) : Prop := ∀ b, b < w.heap.size → b ≠ p → w'.heap[b]? = w.heap[b]?
theorem Oth1.trans {p : Nat} {w w1 w2 : World} (h : Oth1 p w w1) (h' : Oth1 p w1 w2) (hs : w.heap.size ≤ w1.heap.size) : Oth1 p w w2 := fun b hb hn => (h' b (by omega) hn).trans (h b hb hn)
theorem Oth1.set {p : Nat} (w : World) (j : Nat) (u : Value) : Oth1 p w (w.setCell ⟨p, j, none⟩ u) := fun b _ hn => Below.heap_setCell w ⟨p, j, none⟩ u b hn
theorem Oth1.below {p : Nat} {w w' : World} (h : Below w.heap.size w w') : Oth1 p w w' := fun b hb _ => h.block b hb
theorem Oth1.refl (p : Nat) (w : World) : Oth1 p w w := fun _ _ _ => rfl

theorem trim_walk (s : Bs) (w : World) (hs : s.length ≤ 100000000) : Calls Tryz.prog 238 #[.string ⟨s.toArray⟩, .string ⟨#[48, 49, 50, 51, 52, 53, 54, 55, 56, 57]⟩] w fun e w' => e = .returned (.string ⟨(Lib.trimS s Wire.dgs).toArray⟩) ∧ Below w.heap.size w w' :=
  Any.strings_Trim_laid Tryz.lays160 (by kernel_rfl) ⟨s.toArray⟩ ⟨#[48, 49, 50, 51, 52, 53, 54, 55, 56, 57]⟩ w (by rw [mk_size]; omega) (by decide) (ascii_of_all (by decide))
theorem scut_walk (s : Bs) (m : Int) (w : World) (hM : MaxL w m) (hs : s.length ≤ 100000000) : Calls Tryz.prog 167 #[.string ⟨s.toArray⟩, .string ⟨#[58]⟩] w fun e w' => e = .returned (.tuple #[.string ⟨(Lib.cut s [58]).1.toArray⟩, .string ⟨(Lib.cut s [58]).2.1.toArray⟩, .bool (Lib.cut s [58]).2.2]) ∧ ∃ n, w' = w.drewN n :=
  Tryz.strings_Cut ⟨s.toArray⟩ ⟨#[58]⟩ m w (by rw [mk_size]; omega) hM
theorem lcut_walk (s : Bs) (m : Int) (w : World) (hM : MaxL w m) (hs : s.length ≤ 100000000) : Calls Tryz.prog 167 #[.string ⟨s.toArray⟩, .string ⟨#[13, 10]⟩] w fun e w' => e = .returned (.tuple #[.string ⟨(Lib.cut s Wire.crlf).1.toArray⟩, .string ⟨(Lib.cut s Wire.crlf).2.1.toArray⟩, .bool (Lib.cut s Wire.crlf).2.2]) ∧ ∃ n, w' = w.drewN n :=
  Tryz.strings_Cut ⟨s.toArray⟩ ⟨#[13, 10]⟩ m w (by rw [mk_size]; omega) hM
end Go.Proofs.YtalklmeejdmifaaGreatDoor
/-
  THE PLAIN LAW of tokens, the program's way: cutting at a byte, digits of sixteen, signs, words.
-/
namespace Go.Proofs.YtalklmeejdmifaaGreatDoor.Lx
open Go.Lib

theorem occ1 (c : UInt8) (s : List UInt8) (i : Nat) : occAt s [c] i = true ↔ s[i]? = some c := by
  unfold occAt
  have h0 : (s.drop i)[0]? = s[i]? := by rw [List.getElem?_drop]; rfl
  rcases h : s.drop i with _ | ⟨a, t⟩
  · rw [h] at h0; simp only [List.getElem?_nil] at h0; rw [← h0]; simp [List.isPrefixOf]
  · rw [h] at h0
    simp only [List.getElem?_cons_zero] at h0
    rw [← h0]
    simp [List.isPrefixOf]
    exact ⟨fun h => h.symm, fun h => h.symm⟩
theorem tw_before (c : UInt8) : ∀ (l : List UInt8) (k : Nat), k < (l.takeWhile (· != c)).length → ∃ b, l[k]? = some b ∧ b ≠ c
  | [], k, h => by simp at h
  | a :: t, k, h => by
    by_cases ha : a = c
    · subst ha; simp at h
    · have h1 : (a != c) = true := by simp [ha]
      rw [List.takeWhile_cons, if_pos h1, List.length_cons] at h
      cases k with
      | zero => exact ⟨a, rfl, ha⟩
      | succ k =>
        obtain ⟨b, hb, hn⟩ := tw_before c t k (by omega)
        exact ⟨b, by simpa using hb, hn⟩
theorem tw_at (c : UInt8) : ∀ (l : List UInt8), c ∈ l → l[(l.takeWhile (· != c)).length]? = some c
  | [], h => by simp at h
  | a :: t, h => by
    by_cases ha : a = c
    · subst ha; simp
    · have h1 : (a != c) = true := by simp [ha]
      rw [List.takeWhile_cons, if_pos h1, List.length_cons]
      have := tw_at c t ((List.mem_cons.1 h).resolve_left fun e => ha e.symm)
      simpa using this
theorem tw_take (c : UInt8) (l : List UInt8) : l.take (l.takeWhile (· != c)).length = l.takeWhile (· != c) := by
  conv => lhs; rw [← List.takeWhile_append_dropWhile (p := (· != c)) (l := l)]
  rw [List.take_append_of_le_length (by simp), List.take_of_length_le (by simp)]
theorem tw_all (c : UInt8) : ∀ (l : List UInt8), c ∉ l → l.takeWhile (· != c) = l
  | [], _ => rfl
  | a :: t, h => by
    rw [List.mem_cons, not_or] at h
    have h1 : (a != c) = true := by simp; exact fun e => h.1 e.symm
    rw [List.takeWhile_cons, if_pos h1, tw_all c t h.2]
/-- cut at a byte -/
theorem cut_byte (c : UInt8) (l : List UInt8) : (cut l [c]).1 = l.takeWhile (· != c) ∧ (cut l [c]).2.2 = decide (c ∈ l) := by
  by_cases h : c ∈ l
  · have hlen : (l.takeWhile (· != c)).length ≤ l.length := (List.takeWhile_sublist _).length_le
    have hi : index l [c] = ((l.takeWhile (· != c)).length : Nat) := index_first hlen ((occ1 c _ _).2 (tw_at c l h)) fun j hj => by
      cases ho : occAt l [c] j with
      | false => rfl
      | true =>
        obtain ⟨b, hb, hn⟩ := tw_before c l j hj
        rw [(occ1 c _ _).1 ho] at hb
        injection hb with hb
        exact absurd hb.symm hn
    unfold cut
    rw [hi, if_pos (by omega), decide_eq_true h]
    exact ⟨tw_take c l, rfl⟩
  · have hi : index l [c] = -1 := index_none fun j _ => by
      cases ho : occAt l [c] j with
      | false => rfl
      | true => exact absurd (List.mem_of_getElem? ((occ1 c _ _).1 ho)) h
    have hw : l.takeWhile (· != c) = l := tw_all c l h
    unfold cut
    rw [hi, hw, decide_eq_false h]
    exact ⟨rfl, rfl⟩

def hexs : List UInt8 := [48, 49, 50, 51, 52, 53, 54, 55, 56, 57, 97, 98, 99, 100, 101, 102, 65, 66, 67, 68, 69, 70]
theorem hexs_fin : ∀ i : Fin 256, hexs.contains (UInt8.ofNat i.val) = (hexV (UInt8.ofNat i.val)).isSome := by decide +kernel
theorem hexs_iff (b : UInt8) : hexs.contains b = (hexV b).isSome := by
  have := hexs_fin ⟨b.toNat, b.toNat_lt⟩
  simpa using this
theorem drop_nil (l cs : List UInt8) (h : l.dropWhile (cs.contains ·) = []) : ∀ b ∈ l, cs.contains b = true := by
  induction l with
  | nil => intro b hb; simp at hb
  | cons a t ih =>
    rw [List.dropWhile_cons] at h
    split at h
    · rename_i ha
      intro b hb
      rcases List.mem_cons.1 hb with rfl | hb
      · exact ha
      · exact ih h b hb
    · cases h
theorem drop_head (l cs : List UInt8) : ∀ a t, l.dropWhile (cs.contains ·) = a :: t → cs.contains a = false := by
  induction l with
  | nil => intro a t h; simp at h
  | cons x l ih =>
    intro a t h
    rw [List.dropWhile_cons] at h
    split at h
    · exact ih a t h
    · rename_i hx
      injection h with h1 _
      subst h1
      simpa using hx
theorem trim_nil (l cs : List UInt8) (h : trimS l cs = []) : ∀ b ∈ l, cs.contains b = true := by
  unfold trimS trimLeftS at h
  have h1 := drop_nil _ _ h
  unfold trimRightS at h1
  cases hd : l.reverse.dropWhile (cs.contains ·) with
  | nil =>
    intro b hb
    exact drop_nil _ _ hd b (List.mem_reverse.2 hb)
  | cons a t =>
    have h2 := drop_head _ _ a t hd
    rw [hd] at h1
    have h3 := h1 a (List.mem_reverse.2 (by simp))
    rw [h2] at h3; cases h3
theorem trim_all (l cs : List UInt8) (h : ∀ b ∈ l, cs.contains b = true) : trimS l cs = [] := by
  have h1 : trimRightS l cs = l.take 0 := trimRightS_take _ _ 0 (Nat.zero_le _) (fun j b _ hb => h b (List.mem_of_getElem? hb)) (fun b h => by omega)
  unfold trimS
  rw [h1]; rfl
theorem hexN_of_all : ∀ (l : List UInt8) (a : Nat), (∀ b ∈ l, ∃ d, hexV b = some d) → ∃ n, hexN a l = some n
  | [], a, _ => ⟨a, rfl⟩
  | b :: t, a, h => by
    obtain ⟨d, hd⟩ := h b (by simp)
    obtain ⟨n, hn⟩ := hexN_of_all t (a * 16 + d) fun x hx => h x (by simp [hx])
    exact ⟨n, by simp only [hexN, hd]; exact hn⟩
theorem hexN_lt : ∀ (t : List UInt8) (a m : Nat), hexN a t = some m → m < (a + 1) * 16 ^ t.length := by
  intro t
  induction t with
  | nil => intro a m h; simp only [hexN] at h; injection h with h; subst h; simp
  | cons b t ih =>
    intro a m h
    simp only [hexN] at h
    cases hb : hexV b with
    | none => rw [hb] at h; simp at h
    | some x =>
      rw [hb] at h
      have h3 := ih _ _ h
      have h4 := (hex_no b x hb).2.2.2.2
      have h5 : (a * 16 + x + 1) * 16 ^ t.length ≤ (a + 1) * 16 * 16 ^ t.length := Nat.mul_le_mul_right _ (by omega)
      rw [List.length_cons, Nat.pow_succ, Nat.mul_comm (16 ^ t.length) 16, ← Nat.mul_assoc]
      omega
theorem hex_way (D : List UInt8) : (trimS D hexs = [] ∧ (∀ b ∈ D, ∃ d, hexV b = some d) ∧ ∃ n, hexN 0 D = some n) ∨ (trimS D hexs ≠ [] ∧ hexN 0 D = none) := by
  by_cases h : trimS D hexs = []
  · have h1 : ∀ b ∈ D, ∃ d, hexV b = some d := fun b hb => by
      have := trim_nil D hexs h b hb
      rw [hexs_iff] at this
      exact Option.isSome_iff_exists.1 this
    exact .inl ⟨h, h1, hexN_of_all D 0 h1⟩
  · refine .inr ⟨h, ?_⟩
    cases hn : hexN 0 D with
    | none => rfl
    | some n =>
      exfalso
      apply h
      refine trim_all D hexs fun b hb => ?_
      obtain ⟨d, hd⟩ := hexN_all D 0 n hn b hb
      rw [hexs_iff, hd]; rfl

/-- the first line -/
theorem line_cut (l : List UInt8) : (cut l [10]).1.length = (l.takeWhile (· != 10)).length := by rw [(cut_byte 10 l).1]
theorem ix_sign (b : UInt8) : (decide (0 ≤ indexByte signs b)) = signs.contains b := by
  have h : ∀ i : Fin 256, (decide (0 ≤ indexByte signs (UInt8.ofNat i.val))) = signs.contains (UInt8.ofNat i.val) := by decide +kernel
  have := h ⟨b.toNat, b.toNat_lt⟩
  simpa using this
end Go.Proofs.YtalklmeejdmifaaGreatDoor.Lx
/-
  WALKS of package lex: code, escape.
-/
namespace Go.Proofs.YtalklmeejdmifaaGreatDoor
open Go.RowKit

set_option maxHeartbeats 2000000 in
set_option maxRecDepth 100000 in
theorem hexint0_walk (l : Bs) (w : World) (h1 : 1 ≤ l.length) (h6 : l.length ≤ 6) (hall : ∀ b ∈ l, ∃ d, Lx.hexV b = some d) (n : Nat) (hn : Lx.hexN 0 l = some n) (hlt : (n : Int) < 16777216) :
    Calls Tryz.prog 251 #[.string ⟨l.toArray⟩, .int .i64 16, .int .i64 32] w fun e w' => e = .returned (.tuple #[.int .i64 n, .nilIface]) ∧ Below w.heap.size w w' := by
  have hU := hexuint_walk l w h1 h6 hall n hn
  have hne : (l == []) = false := by cases l <;> simp at h1 ⊢
  have h0 : 0 < l.length := by omega
  obtain ⟨d, hd⟩ := hall l[0] (List.getElem_mem h0)
  have hw := hex_ways l[0] d hd
  have f1 : ((((⟨l.toArray⟩ : ByteArray)[0]'(by rw [mk_size]; exact h0)).toNat : Int) == 43) = false := by
    rw [show ((⟨l.toArray⟩ : ByteArray)[0]'(by rw [mk_size]; exact h0)).toNat = l[0].toNat from rfl]
    simp; rcases hw with h | ⟨v, _, _, _, _, h, _⟩ <;> omega
  have f2 : ((((⟨l.toArray⟩ : ByteArray)[0]'(by rw [mk_size]; exact h0)).toNat : Int) == 45) = false := by
    rw [show ((⟨l.toArray⟩ : ByteArray)[0]'(by rw [mk_size]; exact h0)).toNat = l[0].toNat from rfl]
    simp; rcases hw with h | ⟨v, _, _, _, _, h, _⟩ <;> omega
  have hcv : IntKind.u64.wrap 2147483648 = 2147483648 := by rw [IntKind.wrap_u64]; decide
  obtain ⟨a, ha⟩ : ∃ a : Int, a = (n : Int) := ⟨_, rfl⟩
  have a0 : 0 ≤ a := by omega
  have a1 : a < 16777216 := by omega
  rw [← ha] at hU ⊢
  clear hw hd hall hn hlt ha
  go_enter Tryz.func251, Tryz.ntmps251
  go_wp2_with fail
  refine hU.mono ?_
  clear hU
  rintro e w' ⟨rfl, hb⟩
  go_wp2_with fail
  go_ret2
  exact ⟨rfl, hb⟩

set_option maxRecDepth 100000 in
theorem hexint_walk (l : Bs) (w : World) (h1 : 1 ≤ l.length) (h6 : l.length ≤ 6) (hall : ∀ b ∈ l, ∃ d, Lx.hexV b = some d) (n : Nat) (hn : Lx.hexN 0 l = some n) (hlt : (n : Int) < 16777216) :
    Calls Tryz.prog 239 #[.string ⟨l.toArray⟩, .int .i64 16, .int .i64 32] w fun e w' => e = .returned (.tuple #[.int .i64 n, .nilIface]) ∧ Below w.heap.size w w' := by
  have hU := hexint0_walk l w h1 h6 hall n hn hlt
  obtain ⟨a, ha⟩ : ∃ a : Int, a = (n : Int) := ⟨_, rfl⟩
  rw [← ha] at hU ⊢
  clear hall hn hlt ha
  go_enter Tryz.func239, Tryz.ntmps239
  go_wp2_with fail
  refine hU.mono ?_
  clear hU
  rintro e w' ⟨rfl, hb⟩
  go_wp2_with fail
  go_ret2
  exact ⟨rfl, hb⟩
def codeV : Option (Nat × Nat) → Value
  | some (c, n) => .tuple #[.int .i32 c, .int .i64 n]
  | none => .tuple #[.int .i32 0, .int .i64 0]
theorem htrim_walk (s : Bs) (w : World) (hs : s.length ≤ 100000000) : Calls Tryz.prog 238 #[.string ⟨s.toArray⟩, .string ⟨#[48, 49, 50, 51, 52, 53, 54, 55, 56, 57, 97, 98, 99, 100, 101, 102, 65, 66, 67, 68, 69, 70]⟩] w fun e w' => e = .returned (.string ⟨(Lib.trimS s Lx.hexs).toArray⟩) ∧ Below w.heap.size w w' :=
  Any.strings_Trim_laid Tryz.lays160 (by kernel_rfl) ⟨s.toArray⟩ ⟨#[48, 49, 50, 51, 52, 53, 54, 55, 56, 57, 97, 98, 99, 100, 101, 102, 65, 66, 67, 68, 69, 70]⟩ w (by rw [mk_size]; omega) (by decide) (ascii_of_all (by decide))
theorem cut_walk1 (c : UInt8) (s : Bs) (m : Int) (w : World) (hM : MaxL w m) (hs : s.length ≤ 100000000) : Calls Tryz.prog 167 #[.string ⟨s.toArray⟩, .string ⟨#[c]⟩] w fun e w' => e = .returned (.tuple #[.string ⟨(s.takeWhile (· != c)).toArray⟩, .string ⟨(Lib.cut s [c]).2.1.toArray⟩, .bool (decide (c ∈ s))]) ∧ ∃ n, w' = w.drewN n := by
  have h := Tryz.strings_Cut ⟨s.toArray⟩ ⟨#[c]⟩ m w (by rw [mk_size]; omega) hM
  have h1 := (Lx.cut_byte c s).1
  have h2 := (Lx.cut_byte c s).2
  rw [show (⟨s.toArray⟩ : ByteArray).data.toList = s from rfl, show (⟨#[c]⟩ : ByteArray).data.toList = [c] from rfl, h1, h2] at h
  exact h
theorem pre_walk (s p : Bs) (w : World) : Calls Tryz.prog 166 #[.string ⟨s.toArray⟩, .string ⟨p.toArray⟩] w fun e w' => e = .returned (.bool (p.isPrefixOf s)) ∧ w' = w :=
  Tryz.strings_HasPrefix ⟨s.toArray⟩ ⟨p.toArray⟩ w

theorem six_lt (D : Bs) (n : Nat) (h : Lx.hexN 0 D = some n) (h6 : D.length ≤ 6) : (n : Int) < 16777216 := by
  have hn := Lx.hexN_lt D 0 n h
  have h5 : 16 ^ D.length ≤ 16 ^ 6 := Nat.pow_le_pow_right (by omega) h6
  have h7 : (16 : Nat) ^ 6 = 16777216 := by decide
  rw [h7] at h5
  omega

set_option maxHeartbeats 1000000 in
set_option maxRecDepth 100000 in
theorem code_walk (l : Bs) (m : Int) (w : World) (hM : MaxL w m) (hl : l.length ≤ 100000000) :
    Calls Tryz.prog 226 #[.string ⟨l.toArray⟩] w fun e w' => e = .returned (codeV (Lx.codeM l)) ∧ Below w.heap.size w w' := by
  have hP : Calls Tryz.prog 166 #[.string ⟨l.toArray⟩, .string ⟨#[123]⟩] w fun e w' => e = .returned (.bool ([123].isPrefixOf l)) ∧ w' = w := pre_walk l [123] w
  generalize hC : Lx.codeM l = C
  have HC := Lib.hid hC
  clear hC
  cases hp : [(123 : UInt8)].isPrefixOf l with
  | false =>
    have hN : Hid (C = none) := by
      show _ = _
      rw [← HC.out]
      refine Lx.code_no l fun h => ?_
      cases l with
      | nil => simp at h
      | cons a t => simp at h; subst h; simp [List.isPrefixOf] at hp
    rw [hp] at hP
    clear hp HC
    go_enter Tryz.func226, Tryz.ntmps226
    go_wp2_with fail
    refine hP.mono ?_
    rintro e w' ⟨rfl, rfl⟩
    go_wp2_with fail
    go_ret2
    rw [hN.out]
    exact ⟨rfl, Below.refl _ _⟩
  | true =>
    rw [hp] at hP
    obtain ⟨r, rfl⟩ : ∃ r, l = 123 :: r := by
      cases l with
      | nil => simp [List.isPrefixOf] at hp
      | cons a t => simp [List.isPrefixOf] at hp; exact ⟨t, by rw [hp]⟩
    have hlen : (123 :: r).length = r.length + 1 := rfl
    have hcut := cut_walk1 125 r m w hM (by omega)
    have hex := ext_drop (123 :: r) 1
    rw [show List.drop 1 (123 :: r) = r from rfl] at hex
    rw [← hex] at hcut
    have hge : 1 ≤ (123 :: r).length := by omega
    have Hlen := Lib.hid hlen
    have hdl : (r.takeWhile (· != 125)).length ≤ r.length := (List.takeWhile_sublist _).length_le
    have HCe : Hid (C = if ¬ ((125 : UInt8) ∈ r) then none else if (r.takeWhile (· != 125)).length < 1 ∨ 6 < (r.takeWhile (· != 125)).length then none else match Lx.hexN 0 (r.takeWhile (· != 125)) with | none => none | some n => if n > 1114111 ∨ (55296 ≤ n ∧ n ≤ 57343) then none else some (n, (r.takeWhile (· != 125)).length + 2)) := by
      show _ = _
      rw [← HC.out]
      rfl
    have hway := Lx.hex_way (r.takeWhile (· != 125))
    have htr := fun w => htrim_walk (r.takeWhile (· != 125)) w (by omega)
    have hpi := fun w => hexint_walk (r.takeWhile (· != 125)) w
    generalize hL : (123 :: r : Bs) = L at *
    generalize r.takeWhile (· != 125) = D at *
    generalize (Lib.cut r [125]).2.1 = Y at *
    have Hex := Lib.hid hex
    clear hp hex HC hlen
    by_cases hf : (125 : UInt8) ∈ r
    · have H1 := HCe.out
      rw [if_neg (by simpa using hf)] at H1
      rw [decide_eq_true hf] at hcut
      clear HCe hf
      by_cases h1 : D.length < 1
      · have hN : Hid (C = none) := by show _ = _; rw [H1, if_pos (.inl h1)]
        have h1' : D.length = 0 := by omega
        clear H1 hway htr hpi
        go_enter Tryz.func226, Tryz.ntmps226
        go_wp2_with fail
        refine hP.mono ?_
        rintro e w' ⟨rfl, rfl⟩
        go_wp2_with fail
        refine hcut.mono ?_
        rintro e w2 ⟨rfl, n, rfl⟩
        go_wp2_with fail
        go_ret2
        rw [hN.out]
        exact ⟨rfl, below_drewN (Below.refl _ _) n⟩
      · by_cases h6 : 6 < D.length
        · have hN : Hid (C = none) := by show _ = _; rw [H1, if_pos (.inr h6)]
          clear H1 hway htr hpi
          go_enter Tryz.func226, Tryz.ntmps226
          go_wp2_with fail
          refine hP.mono ?_
          rintro e w' ⟨rfl, rfl⟩
          go_wp2_with fail
          refine hcut.mono ?_
          rintro e w2 ⟨rfl, n, rfl⟩
          go_wp2_with fail
          go_ret2
          rw [hN.out]
          exact ⟨rfl, below_drewN (Below.refl _ _) n⟩
        · rw [if_neg (by omega)] at H1
          rcases hway with ⟨g1, g2, n, g3⟩ | ⟨g1, g2⟩
          · rw [g3] at H1
            have hnI : (n : Int) < 16777216 := six_lt D n g3 (by omega)
            have hi := fun w => hpi w (by omega) (by omega) g2 n g3 hnI
            have H2 : Hid (C = if n > 1114111 ∨ (55296 ≤ n ∧ n ≤ 57343) then none else some (n, D.length + 2)) := H1
            rw [g1] at htr
            clear H1 hpi g1 g2 g3
            obtain ⟨a, ha⟩ : ∃ a : Int, a = (n : Int) := ⟨_, rfl⟩
            rw [← ha] at hi hnI
            have a0 : 0 ≤ a := by omega
            have Ha := Lib.hid ha
            have hcase : (1114111 < a) ∨ (¬ 1114111 < a ∧ 55296 ≤ a ∧ a ≤ 57343) ∨ (¬ 1114111 < a ∧ ¬ 55296 ≤ a) ∨ (¬ 1114111 < a ∧ 55296 ≤ a ∧ ¬ a ≤ 57343) := by omega
            clear ha
            rcases hcase with q | ⟨q, q2, q3⟩ | ⟨q, q2⟩ | ⟨q, q2, q3⟩
            · have hN : Hid (C = none) := by show _ = _; rw [H2.out, if_pos (by have := Ha.out; omega)]
              clear H2
              go_enter Tryz.func226, Tryz.ntmps226
              go_wp2_with fail
              refine hP.mono ?_
              rintro e w' ⟨rfl, rfl⟩
              go_wp2_with fail
              refine hcut.mono ?_
              rintro e w2 ⟨rfl, k, rfl⟩
              go_wp2_with fail
              refine (htr _).mono ?_
              rintro e w3 ⟨rfl, hb3⟩
              go_wp2_with fail
              refine (hi _).mono ?_
              rintro e w4 ⟨rfl, hb4⟩
              go_wp2_with fail
              go_ret2
              rw [hN.out]
              exact ⟨rfl, (below_drewN (Below.refl _ _) k).trans (hb3.trans (hb4.mono hb3.size))⟩
            · have hN : Hid (C = none) := by show _ = _; rw [H2.out, if_pos (by have := Ha.out; omega)]
              clear H2
              go_enter Tryz.func226, Tryz.ntmps226
              go_wp2_with fail
              refine hP.mono ?_
              rintro e w' ⟨rfl, rfl⟩
              go_wp2_with fail
              refine hcut.mono ?_
              rintro e w2 ⟨rfl, k, rfl⟩
              go_wp2_with fail
              refine (htr _).mono ?_
              rintro e w3 ⟨rfl, hb3⟩
              go_wp2_with fail
              refine (hi _).mono ?_
              rintro e w4 ⟨rfl, hb4⟩
              go_wp2_with fail
              go_ret2
              rw [hN.out]
              exact ⟨rfl, (below_drewN (Below.refl _ _) k).trans (hb3.trans (hb4.mono hb3.size))⟩
            all_goals
              have hN : Hid (C = some (n, D.length + 2)) := by show _ = _; rw [H2.out, if_neg (by have := Ha.out; omega)]
              clear H2
              go_enter Tryz.func226, Tryz.ntmps226
              go_wp2_with fail
              refine hP.mono ?_
              rintro e w' ⟨rfl, rfl⟩
              go_wp2_with fail
              refine hcut.mono ?_
              rintro e w2 ⟨rfl, k, rfl⟩
              go_wp2_with fail
              refine (htr _).mono ?_
              rintro e w3 ⟨rfl, hb3⟩
              go_wp2_with fail
              refine (hi _).mono ?_
              rintro e w4 ⟨rfl, hb4⟩
              go_wp2_with fail
              go_ret2
              rw [hN.out]
              exact ⟨by show _ = Ending.returned (.tuple #[.int .i32 (n : Int), .int .i64 ((D.length + 2 : Nat) : Int)]); rw [← Ha.out]; rfl, (below_drewN (Below.refl _ _) k).trans (hb3.trans (hb4.mono hb3.size))⟩
          · rw [g2] at H1
            have hN : Hid (C = none) := H1
            have g1' : (Lib.trimS D Lx.hexs == []) = false := by simpa using g1
            clear H1 hpi g1 g2
            generalize Lib.trimS D Lx.hexs = TT at *
            go_enter Tryz.func226, Tryz.ntmps226
            go_wp2_with fail
            refine hP.mono ?_
            rintro e w' ⟨rfl, rfl⟩
            go_wp2_with fail
            refine hcut.mono ?_
            rintro e w2 ⟨rfl, k, rfl⟩
            go_wp2_with fail
            refine (htr _).mono ?_
            rintro e w3 ⟨rfl, hb3⟩
            go_wp2_with fail
            go_ret2
            rw [hN.out]
            exact ⟨rfl, (below_drewN (Below.refl _ _) k).trans hb3⟩
    · have hN : Hid (C = none) := by show _ = _; rw [HCe.out, if_pos (by simpa using hf)]
      rw [decide_eq_false hf] at hcut
      clear HCe hf hway htr hpi
      go_enter Tryz.func226, Tryz.ntmps226
      go_wp2_with fail
      refine hP.mono ?_
      rintro e w' ⟨rfl, rfl⟩
      go_wp2_with fail
      refine hcut.mono ?_
      rintro e w2 ⟨rfl, n, rfl⟩
      go_wp2_with fail
      go_ret2
      rw [hN.out]
      exact ⟨rfl, below_drewN (Below.refl _ _) n⟩
end Go.Proofs.YtalklmeejdmifaaGreatDoor
