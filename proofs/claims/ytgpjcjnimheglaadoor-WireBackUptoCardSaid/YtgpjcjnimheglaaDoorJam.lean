/-
  JOINED of the texts PR OpenT PV
-/
import Derived.Test.YtgpjcjnimheglaaDoorJab
import Derived.Test.YtgpjcjnimheglaaDoorJal
import Derived.Test.YtgpjcjnimheglaaDoorShelfP
import Derived.Lib.ItoaNum
import Derived.Lib.RuneBytes
import Derived.Lib.Strings
import Derived.Lib.BufferRead
import Derived.Deep.DeepCutAuto
import Derived.Deep.RegionHeld3
import Derived.Lib.IndexMore
import Derived.Test.YtgpjcjnimheglaaDoorRows
import Derived.WalkKit
import Derived.WalkSpells
import Derived.WalkLawsBesides
import Derived.Below
import Derived.Laws.OwnMore
import Derived.Deep.AppendLies
import Derived.Deep.Draws
import Derived.Lib.Hide
import Derived.Deep.QuietTactic
import Derived.BigQuiet
import Derived.IntWalk
import Derived.Lib.ConvBytes
import Derived.Laws.Strings3
import Derived.Laws.Closers25
import Derived.Laws.Closers25b
import Derived.BigCall
import Derived.BigGuard
import Derived.Test.YtgpjcjnimheglaaDoorShelfX
import Derived.Shelf.Spec.BytesIndexFunc
import Derived.Test.YtgpjcjnimheglaaDoorShelfW
import Derived.Shelf.Strings.SlTrimAscii
import Derived.Lib.LaidTab
import Derived.Lib.AtoiAll
import Derived.Lib.IndexLaws
import Derived.Lib.SlTrimSet
import Derived.Lib.Atoi
import Derived.WalkMore
import Derived.ScopeJumps
import Derived.Test.YtgpjcjnimheglaaDoorShelf
import Derived.Shelf.Strings.Builder1
import Derived.Test.YtgpjcjnimheglaaDoorJac
import Derived.ProofKit
import Derived.OpenShut
import Derived.JoinedCond
import Derived.Deep.Slices
import Derived.Deep.Fields
import Derived.ChangeSame
import Derived.SliceStrings
/-
  WALKS of package wire: right.
-/
namespace Go.Proofs.YtgpjcjnimheglaaDoor
open Go.RowKit

theorem digits_small (n : Nat) : ∀ k, 1 ≤ k → ((Lib.decDigits n).length ≤ k ↔ n < 10 ^ k) := by
  induction n using Nat.strongRecOn with
  | _ n ih =>
    intro k hk
    rw [Lib.decDigits]
    split
    · rename_i h
      simp only [List.length_cons, List.length_nil]
      constructor
      · intro _
        have : 10 ^ 1 ≤ 10 ^ k := Nat.pow_le_pow_right (by omega) hk
        omega
      · intro _; omega
    · rename_i h
      rw [List.length_append]
      simp only [List.length_cons, List.length_nil]
      cases k with
      | zero => omega
      | succ k =>
        cases k with
        | zero =>
          have h1 := (ih (n / 10) (by omega) 1 (by omega))
          constructor
          · intro hh
            have h2 : 1 ≤ (Lib.decDigits (n / 10)).length := by
              rw [Lib.decDigits]; split <;> simp
            omega
          · intro hh; omega
        | succ k =>
          have h1 := ih (n / 10) (by omega) (k + 1) (by omega)
          rw [Nat.pow_succ]
          constructor
          · intro hh
            have := h1.1 (by omega)
            omega
          · intro hh
            have := h1.2 (by omega)
            omega
theorem dec_head (n : Nat) : ∃ a t, Lib.decDigits n = a :: t ∧ a ≠ 45 := by
  induction n using Nat.strongRecOn with
  | _ n ih =>
    rw [Lib.decDigits]
    split
    · rename_i h
      refine ⟨_, [], rfl, fun e => ?_⟩
      have := congrArg UInt8.toNat e
      rw [UInt8.toNat_ofNat'] at this
      simp at this
      omega
    · obtain ⟨a, t, h1, h2⟩ := ih (n / 10) (by omega)
      exact ⟨a, t ++ [UInt8.ofNat (48 + n % 10)], by rw [h1]; rfl, h2⟩
theorem itoa_trim (n : Int) : ((Lib.trimPrefix (Lib.itoa n) [45]).length : Int) ≤ 18 ↔ (-999999999999999999 ≤ n ∧ n ≤ 999999999999999999) := by
  have key : ∀ m : Nat, ((Lib.decDigits m).length : Int) ≤ 18 ↔ m ≤ 999999999999999999 := fun m => by
    have := digits_small m 18 (by omega)
    rw [show (10 : Nat) ^ 18 = 1000000000000000000 from rfl] at this
    constructor
    · intro h; have := this.1 (by omega); omega
    · intro h; have := this.2 (by omega); omega
  by_cases hn : n < 0
  · have e : Lib.trimPrefix (Lib.itoa n) [45] = Lib.decDigits n.natAbs := by
      unfold Lib.itoa Lib.trimPrefix
      rw [if_pos hn]
      rw [show Lib.hasPrefix (45 :: Lib.decDigits n.natAbs) [45] = true by simp [Lib.hasPrefix, List.isPrefixOf]]; rfl
    rw [e, key]; omega
  · have e : Lib.trimPrefix (Lib.itoa n) [45] = Lib.decDigits n.toNat := by
      unfold Lib.itoa Lib.trimPrefix
      rw [if_neg hn]
      obtain ⟨a, t, h1, h2⟩ := dec_head n.toNat
      rw [h1]
      have : Lib.hasPrefix (a :: t) [45] = false := by simp [Lib.hasPrefix, List.isPrefixOf]; exact fun e => h2 e.symm
      rw [this]; rfl
    rw [e, key]; omega

def rightB (kind num : Int) (t : Bs) (nk nd : Nat) : Bool :=
  if kind = 0 then decide (num = 0) && decide (t = []) && decide (nk = 0) && decide (nd = 0)
  else if kind = 1 then decide (num = 0 ∨ num = 1) && decide (t = []) && decide (nk = 0) && decide (nd = 0)
  else if kind = 2 then decide (-999999999999999999 ≤ num ∧ num ≤ 999999999999999999) && decide (t = []) && decide (nk = 0) && decide (nd = 0)
  else if kind = 3 then decide (num = 0) && decide (nk = 0) && decide (nd = 0)
  else if kind = 4 then decide (num = 0) && decide (t = []) && decide (nk = 0)
  else if kind = 5 then decide (num = 0) && decide (t = []) && decide (nk = nd)
  else false
theorem Tab10.lt {w : World} (h : Tab10 w) : 1 < w.heap.size := World.block_lt_of_cell? w ⟨1, 0, none⟩ (Lib.TabIs.cell h g10 0 (by decide))
theorem right_eq (j : JT) : jright j = rightB j.kind j.num j.text j.keys.length j.kids.length := rfl

section
variable (kind num : Int) (t : Bs) (nk nd : Nat) (Ak Ad : Option Addr) (ck cd : Nat) (w : World)
abbrev jPV : Value := .agg #[.int .i64 kind, .int .i64 num, .string ⟨t.toArray⟩, .slice Ak nk ck, .slice Ad nd cd]
theorem trim1_walk (s : Bs) (w : World) : Calls Tryd.prog 31 #[.string ⟨s.toArray⟩, .string ⟨#[45]⟩] w fun e w' => e = .returned (.string ⟨(Lib.trimPrefix s [45]).toArray⟩) ∧ w' = w := (Tryd.strings_TrimPrefix ⟨s.toArray⟩ ⟨#[45]⟩ w).mono fun _ _ h => h

set_option maxHeartbeats 4000000 in
set_option maxRecDepth 100000 in
theorem right_0 (_hT : Tab10 w) (_h1 : -9223372036854775808 ≤ num) (_h2 : num ≤ 9223372036854775807) (_hk : nk ≤ 16777216) (_hd : nd ≤ 16777216) :
    Calls Tryd.prog 14 #[jPV 0 num t nk nd Ak Ad ck cd] w fun e w' => e = .returned (.bool (rightB 0 num t nk nd)) ∧ Below w.heap.size w w' := by
  have hb1 : Below w.heap.size w (w.alloc (.cells #[.int .i64 0, .int .i64 num, .string ⟨t.toArray⟩, .slice Ak nk ck, .slice Ad nd cd] 25)) := (Below.refl _ _).alloc (Nat.le_refl _) _
  have hB : Hid (rightB 0 num t nk nd = (decide (num = 0) && decide (t = []) && decide (nk = 0) && decide (nd = 0))) := rfl
  generalize rightB 0 num t nk nd = B at *
  by_cases h0 : num = 0
  rotate_left
  · have hR : Hid (B = false) := by show _ = _; rw [hB.out, decide_eq_false h0]; simp
    have e0 : ((num : Int) == 0) = false := by simp; omega
    clear h0 hB
    go_enter Tryd.func14, Tryd.ntmps14
    go_wp2_with fail
    go_ret
    exact ⟨by rw [hR.out]; rfl, hb1⟩
  subst h0
  by_cases h1 : t = []
  rotate_left
  · have hR : Hid (B = false) := by show _ = _; rw [hB.out, decide_eq_false h1]; simp
    have e1 : ((t : Bs) == []) = false := by simp; exact h1
    clear h1 hB
    go_enter Tryd.func14, Tryd.ntmps14
    go_wp2_with fail
    go_ret
    exact ⟨by rw [hR.out]; rfl, hb1⟩
  subst h1
  by_cases h2 : nk = 0
  rotate_left
  · have hR : Hid (B = false) := by show _ = _; rw [hB.out, decide_eq_false h2]; simp
    have e2 : ((nk : Int) == 0) = false := by simp; omega
    clear h2 hB
    go_enter Tryd.func14, Tryd.ntmps14
    go_wp2_with fail
    go_ret
    exact ⟨by rw [hR.out]; rfl, hb1⟩
  subst h2
  by_cases h3 : nd = 0
  rotate_left
  · have hR : Hid (B = false) := by show _ = _; rw [hB.out, decide_eq_false h3]; simp
    have e3 : ((nd : Int) == 0) = false := by simp; omega
    clear h3 hB
    go_enter Tryd.func14, Tryd.ntmps14
    go_wp2_with fail
    go_ret
    exact ⟨by rw [hR.out]; rfl, hb1⟩
  subst h3
  have hR : Hid (B = true) := by show _ = _; rw [hB.out]; first | (simp; done) | (simp; exact h0) | (simp; omega)
  clear hB
  go_enter Tryd.func14, Tryd.ntmps14
  go_wp2_with fail
  go_ret
  exact ⟨by rw [hR.out]; rfl, hb1⟩

set_option maxHeartbeats 4000000 in
set_option maxRecDepth 100000 in
theorem right_1 (_hT : Tab10 w) (_h1 : -9223372036854775808 ≤ num) (_h2 : num ≤ 9223372036854775807) (_hk : nk ≤ 16777216) (_hd : nd ≤ 16777216) :
    Calls Tryd.prog 14 #[jPV 1 num t nk nd Ak Ad ck cd] w fun e w' => e = .returned (.bool (rightB 1 num t nk nd)) ∧ Below w.heap.size w w' := by
  have hb1 : Below w.heap.size w (w.alloc (.cells #[.int .i64 1, .int .i64 num, .string ⟨t.toArray⟩, .slice Ak nk ck, .slice Ad nd cd] 25)) := (Below.refl _ _).alloc (Nat.le_refl _) _
  have hB : Hid (rightB 1 num t nk nd = (decide (num = 0 ∨ num = 1) && decide (t = []) && decide (nk = 0) && decide (nd = 0))) := rfl
  generalize rightB 1 num t nk nd = B at *
  by_cases h0 : num = 0 ∨ num = 1
  rotate_left
  · have hR : Hid (B = false) := by show _ = _; rw [hB.out, decide_eq_false h0]; rfl
    have e0 : ((num : Int) == 0) = false := by simp; omega
    have e0b : ((num : Int) == 1) = false := by simp; omega
    clear h0 hB
    go_enter Tryd.func14, Tryd.ntmps14
    go_wp2_with fail
    go_ret
    exact ⟨by rw [hR.out]; rfl, hb1⟩
  by_cases h1 : t = []
  rotate_left
  · have hR : Hid (B = false) := by show _ = _; rw [hB.out, decide_eq_false h1]; simp
    have e1 : ((t : Bs) == []) = false := by simp; exact h1
    clear h1 hB
    rcases h0 with rfl | rfl
    all_goals
      go_enter Tryd.func14, Tryd.ntmps14
      go_wp2_with fail
      go_ret
      exact ⟨by rw [hR.out]; rfl, hb1⟩
  subst h1
  by_cases h2 : nk = 0
  rotate_left
  · have hR : Hid (B = false) := by show _ = _; rw [hB.out, decide_eq_false h2]; simp
    have e2 : ((nk : Int) == 0) = false := by simp; omega
    clear h2 hB
    rcases h0 with rfl | rfl
    all_goals
      go_enter Tryd.func14, Tryd.ntmps14
      go_wp2_with fail
      go_ret
      exact ⟨by rw [hR.out]; rfl, hb1⟩
  subst h2
  by_cases h3 : nd = 0
  rotate_left
  · have hR : Hid (B = false) := by show _ = _; rw [hB.out, decide_eq_false h3]; simp
    have e3 : ((nd : Int) == 0) = false := by simp; omega
    clear h3 hB
    rcases h0 with rfl | rfl
    all_goals
      go_enter Tryd.func14, Tryd.ntmps14
      go_wp2_with fail
      go_ret
      exact ⟨by rw [hR.out]; rfl, hb1⟩
  subst h3
  have hR : Hid (B = true) := by show _ = _; rw [hB.out]; first | (simp; done) | (simp; exact h0) | (simp; omega)
  clear hB
  rcases h0 with rfl | rfl
  all_goals
    go_enter Tryd.func14, Tryd.ntmps14
    go_wp2_with fail
    go_ret
    exact ⟨by rw [hR.out]; rfl, hb1⟩

set_option maxHeartbeats 4000000 in
set_option maxRecDepth 100000 in
theorem right_2 (hT : Tab10 w) (_h1 : -9223372036854775808 ≤ num) (_h2 : num ≤ 9223372036854775807) (_hk : nk ≤ 16777216) (_hd : nd ≤ 16777216) :
    Calls Tryd.prog 14 #[jPV 2 num t nk nd Ak Ad ck cd] w fun e w' => e = .returned (.bool (rightB 2 num t nk nd)) ∧ Below w.heap.size w w' := by
  have hb1 : Below w.heap.size w (w.alloc (.cells #[.int .i64 2, .int .i64 num, .string ⟨t.toArray⟩, .slice Ak nk ck, .slice Ad nd cd] 25)) := (Below.refl _ _).alloc (Nat.le_refl _) _
  have hB : Hid (rightB 2 num t nk nd = (decide (-999999999999999999 ≤ num ∧ num ≤ 999999999999999999) && decide (t = []) && decide (nk = 0) && decide (nd = 0))) := rfl
  generalize rightB 2 num t nk nd = B at *
  have hit := fun (w : World) (hT : Tab10 w) => Tryd.strconv_Itoa num (by omega) (by omega) w hT
  have htl := itoa_trim num
  generalize Lib.itoa num = I at *
  have htr := fun w => trim1_walk I w
  generalize Lib.trimPrefix I [45] = J at *
  by_cases h0 : -999999999999999999 ≤ num ∧ num ≤ 999999999999999999
  rotate_left
  · have hR : Hid (B = false) := by show _ = _; rw [hB.out, decide_eq_false h0]; simp
    have e0 : ¬ (J.length : Int) ≤ 18 := fun h => h0 (htl.1 h)
    clear h0 hB
    go_enter Tryd.func14, Tryd.ntmps14
    go_wp2_with fail
    refine (hit _ (hT.below ((Below.refl _ _).alloc (Nat.le_refl _) _) (Tab10.lt hT))).mono ?_
    rintro e w2 ⟨rfl, kk, os, hw⟩
    have hb12 : Below (w.heap.size + 1) (w.alloc (.cells #[.int .i64 2, .int .i64 num, .string ⟨t.toArray⟩, .slice Ak nk ck, .slice Ad nd cd] 25)) w2 := by rw [hw]; exact (((below_drewN (Below.refl _ _) kk).trans (below_grow _ os)).mono (by simp))
    have hb2 : Below w.heap.size w w2 := hb1.trans (hb12.mono (by omega))
    have hBk := (Blk.new w 25 _).below hb12 (by omega)
    have b0 := hBk.cell 0
    have b1 := hBk.cell 1
    have b2 := hBk.cell 2
    have b3 := hBk.cell 3
    have b4 := hBk.cell 4
    simp at b0 b1 b2 b3 b4
    clear hw hBk hb12 hit
    go_wp2_with fail
    refine (htr _).mono ?_
    rintro e w3 ⟨rfl, rfl⟩
    go_wp2_with fail
    go_ret
    exact ⟨by rw [hR.out]; rfl, hb2⟩
  have e0 : (J.length : Int) ≤ 18 := htl.2 h0
  by_cases h1 : t = []
  rotate_left
  · have hR : Hid (B = false) := by show _ = _; rw [hB.out, decide_eq_false h1]; simp
    have e1 : ((t : Bs) == []) = false := by simp; exact h1
    clear h1 hB
    go_enter Tryd.func14, Tryd.ntmps14
    go_wp2_with fail
    refine (hit _ (hT.below ((Below.refl _ _).alloc (Nat.le_refl _) _) (Tab10.lt hT))).mono ?_
    rintro e w2 ⟨rfl, kk, os, hw⟩
    have hb12 : Below (w.heap.size + 1) (w.alloc (.cells #[.int .i64 2, .int .i64 num, .string ⟨t.toArray⟩, .slice Ak nk ck, .slice Ad nd cd] 25)) w2 := by rw [hw]; exact (((below_drewN (Below.refl _ _) kk).trans (below_grow _ os)).mono (by simp))
    have hb2 : Below w.heap.size w w2 := hb1.trans (hb12.mono (by omega))
    have hBk := (Blk.new w 25 _).below hb12 (by omega)
    have b0 := hBk.cell 0
    have b1 := hBk.cell 1
    have b2 := hBk.cell 2
    have b3 := hBk.cell 3
    have b4 := hBk.cell 4
    simp at b0 b1 b2 b3 b4
    clear hw hBk hb12 hit
    go_wp2_with fail
    refine (htr _).mono ?_
    rintro e w3 ⟨rfl, rfl⟩
    go_wp2_with fail
    go_ret
    exact ⟨by rw [hR.out]; rfl, hb2⟩
  subst h1
  by_cases h2 : nk = 0
  rotate_left
  · have hR : Hid (B = false) := by show _ = _; rw [hB.out, decide_eq_false h2]; simp
    have e2 : ((nk : Int) == 0) = false := by simp; omega
    clear h2 hB
    go_enter Tryd.func14, Tryd.ntmps14
    go_wp2_with fail
    refine (hit _ (hT.below ((Below.refl _ _).alloc (Nat.le_refl _) _) (Tab10.lt hT))).mono ?_
    rintro e w2 ⟨rfl, kk, os, hw⟩
    have hb12 : Below (w.heap.size + 1) (w.alloc (.cells #[.int .i64 2, .int .i64 num, .string ⟨([] : Bs).toArray⟩, .slice Ak nk ck, .slice Ad nd cd] 25)) w2 := by rw [hw]; exact (((below_drewN (Below.refl _ _) kk).trans (below_grow _ os)).mono (by simp))
    have hb2 : Below w.heap.size w w2 := hb1.trans (hb12.mono (by omega))
    have hBk := (Blk.new w 25 _).below hb12 (by omega)
    have b0 := hBk.cell 0
    have b1 := hBk.cell 1
    have b2 := hBk.cell 2
    have b3 := hBk.cell 3
    have b4 := hBk.cell 4
    simp at b0 b1 b2 b3 b4
    clear hw hBk hb12 hit
    go_wp2_with fail
    refine (htr _).mono ?_
    rintro e w3 ⟨rfl, rfl⟩
    go_wp2_with fail
    go_ret
    exact ⟨by rw [hR.out]; rfl, hb2⟩
  subst h2
  by_cases h3 : nd = 0
  rotate_left
  · have hR : Hid (B = false) := by show _ = _; rw [hB.out, decide_eq_false h3]; simp
    have e3 : ((nd : Int) == 0) = false := by simp; omega
    clear h3 hB
    go_enter Tryd.func14, Tryd.ntmps14
    go_wp2_with fail
    refine (hit _ (hT.below ((Below.refl _ _).alloc (Nat.le_refl _) _) (Tab10.lt hT))).mono ?_
    rintro e w2 ⟨rfl, kk, os, hw⟩
    have hb12 : Below (w.heap.size + 1) (w.alloc (.cells #[.int .i64 2, .int .i64 num, .string ⟨([] : Bs).toArray⟩, .slice Ak 0 ck, .slice Ad nd cd] 25)) w2 := by rw [hw]; exact (((below_drewN (Below.refl _ _) kk).trans (below_grow _ os)).mono (by simp))
    have hb2 : Below w.heap.size w w2 := hb1.trans (hb12.mono (by omega))
    have hBk := (Blk.new w 25 _).below hb12 (by omega)
    have b0 := hBk.cell 0
    have b1 := hBk.cell 1
    have b2 := hBk.cell 2
    have b3 := hBk.cell 3
    have b4 := hBk.cell 4
    simp at b0 b1 b2 b3 b4
    clear hw hBk hb12 hit
    go_wp2_with fail
    refine (htr _).mono ?_
    rintro e w3 ⟨rfl, rfl⟩
    go_wp2_with fail
    go_ret
    exact ⟨by rw [hR.out]; rfl, hb2⟩
  subst h3
  have hR : Hid (B = true) := by show _ = _; rw [hB.out]; first | (simp; done) | (simp; exact h0) | (simp; omega)
  clear hB
  go_enter Tryd.func14, Tryd.ntmps14
  go_wp2_with fail
  refine (hit _ (hT.below ((Below.refl _ _).alloc (Nat.le_refl _) _) (Tab10.lt hT))).mono ?_
  rintro e w2 ⟨rfl, kk, os, hw⟩
  have hb12 : Below (w.heap.size + 1) (w.alloc (.cells #[.int .i64 2, .int .i64 num, .string ⟨([] : Bs).toArray⟩, .slice Ak 0 ck, .slice Ad 0 cd] 25)) w2 := by rw [hw]; exact (((below_drewN (Below.refl _ _) kk).trans (below_grow _ os)).mono (by simp))
  have hb2 : Below w.heap.size w w2 := hb1.trans (hb12.mono (by omega))
  have hBk := (Blk.new w 25 _).below hb12 (by omega)
  have b0 := hBk.cell 0
  have b1 := hBk.cell 1
  have b2 := hBk.cell 2
  have b3 := hBk.cell 3
  have b4 := hBk.cell 4
  simp at b0 b1 b2 b3 b4
  clear hw hBk hb12 hit
  go_wp2_with fail
  refine (htr _).mono ?_
  rintro e w3 ⟨rfl, rfl⟩
  go_wp2_with fail
  go_ret
  exact ⟨by rw [hR.out]; rfl, hb2⟩

set_option maxHeartbeats 4000000 in
set_option maxRecDepth 100000 in
theorem right_3 (_hT : Tab10 w) (_h1 : -9223372036854775808 ≤ num) (_h2 : num ≤ 9223372036854775807) (_hk : nk ≤ 16777216) (_hd : nd ≤ 16777216) :
    Calls Tryd.prog 14 #[jPV 3 num t nk nd Ak Ad ck cd] w fun e w' => e = .returned (.bool (rightB 3 num t nk nd)) ∧ Below w.heap.size w w' := by
  have hb1 : Below w.heap.size w (w.alloc (.cells #[.int .i64 3, .int .i64 num, .string ⟨t.toArray⟩, .slice Ak nk ck, .slice Ad nd cd] 25)) := (Below.refl _ _).alloc (Nat.le_refl _) _
  have hB : Hid (rightB 3 num t nk nd = (decide (num = 0) && decide (nk = 0) && decide (nd = 0))) := rfl
  generalize rightB 3 num t nk nd = B at *
  by_cases h0 : num = 0
  rotate_left
  · have hR : Hid (B = false) := by show _ = _; rw [hB.out, decide_eq_false h0]; simp
    have e0 : ((num : Int) == 0) = false := by simp; omega
    clear h0 hB
    go_enter Tryd.func14, Tryd.ntmps14
    go_wp2_with fail
    go_ret
    exact ⟨by rw [hR.out]; rfl, hb1⟩
  subst h0
  by_cases h1 : nk = 0
  rotate_left
  · have hR : Hid (B = false) := by show _ = _; rw [hB.out, decide_eq_false h1]; simp
    have e1 : ((nk : Int) == 0) = false := by simp; omega
    clear h1 hB
    go_enter Tryd.func14, Tryd.ntmps14
    go_wp2_with fail
    go_ret
    exact ⟨by rw [hR.out]; rfl, hb1⟩
  subst h1
  by_cases h2 : nd = 0
  rotate_left
  · have hR : Hid (B = false) := by show _ = _; rw [hB.out, decide_eq_false h2]; simp
    have e2 : ((nd : Int) == 0) = false := by simp; omega
    clear h2 hB
    go_enter Tryd.func14, Tryd.ntmps14
    go_wp2_with fail
    go_ret
    exact ⟨by rw [hR.out]; rfl, hb1⟩
  subst h2
  have hR : Hid (B = true) := by show _ = _; rw [hB.out]; first | (simp; done) | (simp; exact h0) | (simp; omega)
  clear hB
  go_enter Tryd.func14, Tryd.ntmps14
  go_wp2_with fail
  go_ret
  exact ⟨by rw [hR.out]; rfl, hb1⟩

set_option maxHeartbeats 4000000 in
set_option maxRecDepth 100000 in
theorem right_4 (_hT : Tab10 w) (_h1 : -9223372036854775808 ≤ num) (_h2 : num ≤ 9223372036854775807) (_hk : nk ≤ 16777216) (_hd : nd ≤ 16777216) :
    Calls Tryd.prog 14 #[jPV 4 num t nk nd Ak Ad ck cd] w fun e w' => e = .returned (.bool (rightB 4 num t nk nd)) ∧ Below w.heap.size w w' := by
  have hb1 : Below w.heap.size w (w.alloc (.cells #[.int .i64 4, .int .i64 num, .string ⟨t.toArray⟩, .slice Ak nk ck, .slice Ad nd cd] 25)) := (Below.refl _ _).alloc (Nat.le_refl _) _
  have hB : Hid (rightB 4 num t nk nd = (decide (num = 0) && decide (t = []) && decide (nk = 0))) := rfl
  generalize rightB 4 num t nk nd = B at *
  by_cases h0 : num = 0
  rotate_left
  · have hR : Hid (B = false) := by show _ = _; rw [hB.out, decide_eq_false h0]; simp
    have e0 : ((num : Int) == 0) = false := by simp; omega
    clear h0 hB
    go_enter Tryd.func14, Tryd.ntmps14
    go_wp2_with fail
    go_ret
    exact ⟨by rw [hR.out]; rfl, hb1⟩
  subst h0
  by_cases h1 : t = []
  rotate_left
  · have hR : Hid (B = false) := by show _ = _; rw [hB.out, decide_eq_false h1]; simp
    have e1 : ((t : Bs) == []) = false := by simp; exact h1
    clear h1 hB
    go_enter Tryd.func14, Tryd.ntmps14
    go_wp2_with fail
    go_ret
    exact ⟨by rw [hR.out]; rfl, hb1⟩
  subst h1
  by_cases h2 : nk = 0
  rotate_left
  · have hR : Hid (B = false) := by show _ = _; rw [hB.out, decide_eq_false h2]; simp
    have e2 : ((nk : Int) == 0) = false := by simp; omega
    clear h2 hB
    go_enter Tryd.func14, Tryd.ntmps14
    go_wp2_with fail
    go_ret
    exact ⟨by rw [hR.out]; rfl, hb1⟩
  subst h2
  have hR : Hid (B = true) := by show _ = _; rw [hB.out]; first | (simp; done) | (simp; exact h0) | (simp; omega)
  clear hB
  go_enter Tryd.func14, Tryd.ntmps14
  go_wp2_with fail
  go_ret
  exact ⟨by rw [hR.out]; rfl, hb1⟩

set_option maxHeartbeats 4000000 in
set_option maxRecDepth 100000 in
theorem right_5 (_hT : Tab10 w) (_h1 : -9223372036854775808 ≤ num) (_h2 : num ≤ 9223372036854775807) (_hk : nk ≤ 16777216) (_hd : nd ≤ 16777216) :
    Calls Tryd.prog 14 #[jPV 5 num t nk nd Ak Ad ck cd] w fun e w' => e = .returned (.bool (rightB 5 num t nk nd)) ∧ Below w.heap.size w w' := by
  have hb1 : Below w.heap.size w (w.alloc (.cells #[.int .i64 5, .int .i64 num, .string ⟨t.toArray⟩, .slice Ak nk ck, .slice Ad nd cd] 25)) := (Below.refl _ _).alloc (Nat.le_refl _) _
  have hB : Hid (rightB 5 num t nk nd = (decide (num = 0) && decide (t = []) && decide (nk = nd))) := rfl
  generalize rightB 5 num t nk nd = B at *
  by_cases h0 : num = 0
  rotate_left
  · have hR : Hid (B = false) := by show _ = _; rw [hB.out, decide_eq_false h0]; simp
    have e0 : ((num : Int) == 0) = false := by simp; omega
    clear h0 hB
    go_enter Tryd.func14, Tryd.ntmps14
    go_wp2_with fail
    go_ret
    exact ⟨by rw [hR.out]; rfl, hb1⟩
  subst h0
  by_cases h1 : t = []
  rotate_left
  · have hR : Hid (B = false) := by show _ = _; rw [hB.out, decide_eq_false h1]; simp
    have e1 : ((t : Bs) == []) = false := by simp; exact h1
    clear h1 hB
    go_enter Tryd.func14, Tryd.ntmps14
    go_wp2_with fail
    go_ret
    exact ⟨by rw [hR.out]; rfl, hb1⟩
  subst h1
  by_cases h2 : nk = nd
  rotate_left
  · have hR : Hid (B = false) := by show _ = _; rw [hB.out, decide_eq_false h2]; simp
    have e2 : ((nk : Int) == (nd : Int)) = false := by simp; omega
    clear h2 hB
    go_enter Tryd.func14, Tryd.ntmps14
    go_wp2_with fail
    go_ret
    exact ⟨by rw [hR.out]; rfl, hb1⟩
  subst h2
  have hR : Hid (B = true) := by show _ = _; rw [hB.out]; first | (simp; done) | (simp; exact h0) | (simp; omega)
  clear hB
  go_enter Tryd.func14, Tryd.ntmps14
  go_wp2_with fail
  go_ret
  exact ⟨by rw [hR.out]; rfl, hb1⟩

set_option maxHeartbeats 4000000 in
set_option maxRecDepth 100000 in
theorem right_lo (h : kind < 0) :
    Calls Tryd.prog 14 #[jPV kind num t nk nd Ak Ad ck cd] w fun e w' => e = .returned (.bool (rightB kind num t nk nd)) ∧ Below w.heap.size w w' := by
  have hb1 : Below w.heap.size w (w.alloc (.cells #[.int .i64 kind, .int .i64 num, .string ⟨t.toArray⟩, .slice Ak nk ck, .slice Ad nd cd] 25)) := (Below.refl _ _).alloc (Nat.le_refl _) _
  have hR : Hid (rightB kind num t nk nd = false) := by
    show _ = _
    unfold rightB
    rw [if_neg (by omega), if_neg (by omega), if_neg (by omega), if_neg (by omega), if_neg (by omega), if_neg (by omega)]
  generalize rightB kind num t nk nd = B at *
  have q0 : (kind == 0) = false := by simp; omega
  have q1 : (kind == 1) = false := by simp; omega
  have q2 : (kind == 2) = false := by simp; omega
  have q3 : (kind == 3) = false := by simp; omega
  have q4 : (kind == 4) = false := by simp; omega
  have q5 : (kind == 5) = false := by simp; omega
  have g1 : ¬ (0 : Int) ≤ kind := by omega
  clear h
  go_enter Tryd.func14, Tryd.ntmps14
  go_wp2_with fail
  go_ret
  exact ⟨by rw [hR.out]; rfl, hb1⟩

set_option maxHeartbeats 4000000 in
set_option maxRecDepth 100000 in
theorem right_hi (h : 5 < kind) :
    Calls Tryd.prog 14 #[jPV kind num t nk nd Ak Ad ck cd] w fun e w' => e = .returned (.bool (rightB kind num t nk nd)) ∧ Below w.heap.size w w' := by
  have hb1 : Below w.heap.size w (w.alloc (.cells #[.int .i64 kind, .int .i64 num, .string ⟨t.toArray⟩, .slice Ak nk ck, .slice Ad nd cd] 25)) := (Below.refl _ _).alloc (Nat.le_refl _) _
  have hR : Hid (rightB kind num t nk nd = false) := by
    show _ = _
    unfold rightB
    rw [if_neg (by omega), if_neg (by omega), if_neg (by omega), if_neg (by omega), if_neg (by omega), if_neg (by omega)]
  generalize rightB kind num t nk nd = B at *
  have q0 : (kind == 0) = false := by simp; omega
  have q1 : (kind == 1) = false := by simp; omega
  have q2 : (kind == 2) = false := by simp; omega
  have q3 : (kind == 3) = false := by simp; omega
  have q4 : (kind == 4) = false := by simp; omega
  have q5 : (kind == 5) = false := by simp; omega
  have g1 : (0 : Int) ≤ kind := by omega
  have g2 : ¬ kind ≤ 5 := by omega
  clear h
  go_enter Tryd.func14, Tryd.ntmps14
  go_wp2_with fail
  go_ret
  exact ⟨by rw [hR.out]; rfl, hb1⟩

theorem right_walk (hT : Tab10 w) (h1 : -9223372036854775808 ≤ num) (h2 : num ≤ 9223372036854775807) (hk : nk ≤ 16777216) (hd : nd ≤ 16777216) :
    Calls Tryd.prog 14 #[jPV kind num t nk nd Ak Ad ck cd] w fun e w' => e = .returned (.bool (rightB kind num t nk nd)) ∧ Below w.heap.size w w' := by
  have hw : kind < 0 ∨ kind = 0 ∨ kind = 1 ∨ kind = 2 ∨ kind = 3 ∨ kind = 4 ∨ kind = 5 ∨ 5 < kind := by omega
  rcases hw with h | rfl | rfl | rfl | rfl | rfl | rfl | h
  · exact right_lo kind num t nk nd Ak Ad ck cd w h
  · exact right_0 num t nk nd Ak Ad ck cd w hT h1 h2 hk hd
  · exact right_1 num t nk nd Ak Ad ck cd w hT h1 h2 hk hd
  · exact right_2 num t nk nd Ak Ad ck cd w hT h1 h2 hk hd
  · exact right_3 num t nk nd Ak Ad ck cd w hT h1 h2 hk hd
  · exact right_4 num t nk nd Ak Ad ck cd w hT h1 h2 hk hd
  · exact right_5 num t nk nd Ak Ad ck cd w hT h1 h2 hk hd
  · exact right_hi kind num t nk nd Ak Ad ck cd w h
end
end Go.Proofs.YtgpjcjnimheglaaDoor
/-
  ARGUMENTS OF TYPE []string AND []int, OPENED: what they read as; the bound of the second form bounds their number and their bytes.
-/
namespace Go.Proofs.YtgpjcjnimheglaaDoor
open Go.RowKit Go.ChangeShapes Go.WideShapes Go.Deep

namespace bulks
theorem one_le {H : Type} (d : DataW H) : 1 ≤ Rows.uptoBulk d := by
  cases d with
  | lit l => cases l <;> simp [Rows.uptoBulk]
  | nil => simp [Rows.uptoBulk]
  | ptr d => simp [Rows.uptoBulk]
  | slice elems spare => simp [Rows.uptoBulk]
  | agg parts => simp [Rows.uptoBulk]
  | iface t d => simp [Rows.uptoBulk]
  | map entries => simp [Rows.uptoBulk]
  | held h => simp [Rows.uptoBulk]
theorem append {H : Type} (l r : List (DataW H)) : Rows.uptoBulkAll (l ++ r) = Rows.uptoBulkAll l + Rows.uptoBulkAll r := by
  induction l with
  | nil => simp [Rows.uptoBulkAll]
  | cons x l ih => simp only [List.cons_append, Rows.uptoBulkAll, ih]; omega
theorem bound {H : Type} {l : List (DataW H)} (hk : Rows.uptoSmall H l = true) : Rows.uptoBulkAll l ≤ 1048576 := of_decide_eq_true hk
theorem many {H : Type} : ∀ l : List (DataW H), l.length ≤ Rows.uptoBulkAll l
  | [] => by simp [Rows.uptoBulkAll]
  | d :: l => by have := many l; have := one_le d; simp only [Rows.uptoBulkAll, List.length_cons]; omega
theorem strs {H : Type} : ∀ l : List ByteArray, l.length + (l.map fun s => s.data.toList.length).sum ≤ Rows.uptoBulkAll (Go.ChangeShapes.strs (H := H) l)
  | [] => by simp [Go.ChangeShapes.strs, Rows.uptoBulkAll]
  | s :: l => by
    have := strs (H := H) l
    simp only [Go.ChangeShapes.strs, List.map_cons, Rows.uptoBulkAll, Rows.uptoBulk, List.length_cons, List.sum_cons] at *
    omega
end bulks

theorem add_cells {w : World} {a : Addr} {k : Nat} {u : Value} (h : w.cell? (a.add k) = some u) : w.cell? ⟨a.block, a.off + k, none⟩ = some u := by
  unfold Addr.add at h
  by_cases hk : k = 0
  · subst hk
    simp only [if_true, Nat.add_zero] at h ⊢
    unfold World.cell? at h ⊢
    split at h
    · rename_i hh
      rw [hh]
      by_cases hs : a.spot.isSome = true
      · simp [hs] at h
      · simpa [hs] using h
    · cases h
  · rw [if_neg hk] at h; exact h

theorem spot_none {w : World} {a : Addr} {k : Nat} {u : Value} (h : w.cell? (a.add k) = some u) (hk : k = 0) : a = ⟨a.block, a.off, none⟩ := by
  subst hk
  unfold Addr.add at h
  simp only [if_true] at h
  obtain ⟨b, o, s⟩ := a
  unfold World.cell? at h
  split at h
  · cases s with
    | none => rfl
    | some _ => simp at h
  · cases h

set_option maxRecDepth 100000 in
theorem open_texts_at {H : Type} {enc : TypeId × Value → H} {w : World} {base : Nat} {spare : Nat → Bool} {held : Bool} {fuel : Nat} {v : Value} {d : DataW H} {p : List MemPlace}
    (hf : DataW.trod enc Tryd.prog w base spare held fuel 22 [v] = some (d, p)) :
    ∃ (A : Option Addr) (c : Nat) (l : List Bs), v = .slice A l.length c ∧ Rd w w.heap.size 1 A l.length (txtV l) ∧ l.length + (l.map List.length).sum + 1 ≤ Rows.uptoBulk d := by
  rcases open_strings Tryd.underlying22 Tryd.underlying9 (by kernel_rfl) hf with ⟨hcs, hx⟩ | ⟨a, len, cap, ss, hcs, hbs, hl, hm, hzl, hx, hcell, _⟩
  · simp only [List.cons.injEq, and_true] at hcs
    subst hcs
    exact ⟨none, 0, [], rfl, Rd.none_, by have := bulks.one_le d; simpa using this⟩
  · simp only [List.cons.injEq, and_true] at hcs
    subst hcs
    have hlz : len ≤ ss.length := by rw [hzl]; split <;> omega
    have htl : ((ss.take len).map fun s => s.data.toList).length = len := by simp; omega
    refine ⟨some a, cap, (ss.take len).map fun s => s.data.toList, by rw [htl], ⟨by simp [txtV], fun hn => ?_⟩, ?_⟩
    · rw [htl] at hn
      have h0 := hcell 0 (by omega)
      refine ⟨a.block, a.off, by rw [← spot_none h0 rfl], World.block_lt_of_cell? w ⟨a.block, _, none⟩ (add_cells h0), fun j u hu => ?_⟩
      have hj : j < len := by
        have := (List.getElem?_eq_some_iff.1 hu).1
        simp [txtV] at this
        omega
      have h1 := add_cells (hcell j (by omega))
      rw [h1, ← hu]
      unfold txtV strV
      rw [List.getElem?_map, List.getElem?_map, List.getElem?_take, if_pos hj, List.getD_eq_getElem?_getD, List.getElem?_eq_getElem (by omega)]
      simp only [Option.map_some, Option.getD_some, Lib.mk_data]
    · simp only [Prod.mk.injEq] at hx
      rw [hx.1, htl]
      have := bulks.strs (H := H) (ss.take len)
      simp only [List.length_take, List.map_map] at this ⊢
      have e : (List.length ∘ fun s : ByteArray => s.data.toList) = fun s : ByteArray => s.data.toList.length := rfl
      rw [e]
      simp only [Rows.uptoBulk]
      omega
set_option maxRecDepth 100000 in
theorem open_texts {H : Type} {enc : TypeId × Value → H} {w : World} {base : Nat} {spare : Nat → Bool} {held : Bool} {b0 : Nat} {v : Value} {d : DataW H} {p : List MemPlace}
    (hv : Value.okWide Tryd.prog w .any b0 22 v) (h : DataW.Trod enc Tryd.prog w base spare held 22 v d p) :
    ∃ (A : Option Addr) (c : Nat) (l : List Bs), v = .slice A l.length c ∧ Rd w w.heap.size 1 A l.length (txtV l) ∧ l.length + (l.map List.length).sum + 1 ≤ Rows.uptoBulk d := by
  obtain ⟨A, len, cap, rfl⟩ := okWide_slice Tryd.underlying22 hv
  obtain ⟨fuel, hf⟩ := h
  exact open_texts_at hf
end Go.Proofs.YtgpjcjnimheglaaDoor
/-
  VALUES OF MESSAGES IN MEMORY.
-/
namespace Go.Proofs.YtgpjcjnimheglaaDoor
open Go.RowKit Go.ChangeShapes Go.WideShapes Go.Deep

/-- a row of values, so deep, all below block B -/
def JsAt (w : World) (B : Nat) : Nat → List JT → Option Addr → Prop
  | 0, l, _ => l = []
  | d + 1, l, A => 0 < l.length → ∃ b o, A = some ⟨b, o, none⟩ ∧ b < B ∧ ∀ k (h : k < l.length), ∃ Ak ck Ad cd,
      w.cell? ⟨b, o + k * 5, none⟩ = some (.int .i64 l[k].kind) ∧ w.cell? ⟨b, o + k * 5 + 1, none⟩ = some (.int .i64 l[k].num) ∧ w.cell? ⟨b, o + k * 5 + 2, none⟩ = some (strV l[k].text) ∧ w.cell? ⟨b, o + k * 5 + 3, none⟩ = some (.slice Ak l[k].keys.length ck) ∧ w.cell? ⟨b, o + k * 5 + 4, none⟩ = some (.slice Ad l[k].kids.length cd) ∧
      Rd w B 1 Ak l[k].keys.length (txtV l[k].keys) ∧ l[k].keys.length ≤ ck ∧ JsAt w B d l[k].kids Ad ∧ (-9223372036854775808 ≤ l[k].num ∧ l[k].num ≤ 9223372036854775807) ∧ (-9223372036854775808 ≤ l[k].kind ∧ l[k].kind ≤ 9223372036854775807)
/-- a value's rows -/
def JIn (w : World) (B d : Nat) (j : JT) (Ak : Option Addr) (ck : Nat) (Ad : Option Addr) : Prop := Rd w B 1 Ak j.keys.length (txtV j.keys) ∧ j.keys.length ≤ ck ∧ JsAt w B d j.kids Ad ∧ (-9223372036854775808 ≤ j.num ∧ j.num ≤ 9223372036854775807) ∧ (-9223372036854775808 ≤ j.kind ∧ j.kind ≤ 9223372036854775807)

theorem JsAt.below {w w' : World} {B : Nat} : ∀ {d : Nat} {l : List JT} {A : Option Addr}, JsAt w B d l A → Below B w w' → JsAt w' B d l A
  | 0, _, _, h, _ => h
  | d + 1, l, A, h, hb => fun hn => by
    obtain ⟨b, o, e, hB, hk⟩ := h hn
    refine ⟨b, o, e, hB, fun k hkl => ?_⟩
    obtain ⟨Ak, ck, Ad, cd, c0, c1, c2, c3, c4, hr, hle, hj, hn1, hn2⟩ := hk k hkl
    have hc : ∀ j, w'.cell? ⟨b, j, none⟩ = w.cell? ⟨b, j, none⟩ := fun j => hb.cell (p := ⟨b, j, none⟩) hB
    exact ⟨Ak, ck, Ad, cd, (hc _).trans c0, (hc _).trans c1, (hc _).trans c2, (hc _).trans c3, (hc _).trans c4, hr.below hb, hle, JsAt.below hj hb, hn1, hn2⟩
theorem JIn.below {w w' : World} {B d : Nat} {j : JT} {Ak Ad : Option Addr} {ck : Nat} (h : JIn w B d j Ak ck Ad) (hb : Below B w w') : JIn w' B d j Ak ck Ad := ⟨h.1.below hb, h.2.1, h.2.2.1.below hb, h.2.2.2⟩
/-- a value of a row -/
theorem JsAt.get {w : World} {B d : Nat} {l : List JT} {A : Option Addr} {k : Nat} (h : JsAt w B d l A) (hk : k < l.length) :
    ∃ b o Ak ck Ad cd d', A = some ⟨b, o, none⟩ ∧ b < B ∧ w.cell? ⟨b, o + k * 5, none⟩ = some (.int .i64 l[k].kind) ∧ w.cell? ⟨b, o + k * 5 + 1, none⟩ = some (.int .i64 l[k].num) ∧ w.cell? ⟨b, o + k * 5 + 2, none⟩ = some (strV l[k].text) ∧ w.cell? ⟨b, o + k * 5 + 3, none⟩ = some (.slice Ak l[k].keys.length ck) ∧ w.cell? ⟨b, o + k * 5 + 4, none⟩ = some (.slice Ad l[k].kids.length cd) ∧ JIn w B d' l[k] Ak ck Ad := by
  cases d with
  | zero => have : l = [] := h; subst this; simp at hk
  | succ d =>
    obtain ⟨b, o, e, hB, hh⟩ := h (by omega)
    obtain ⟨Ak, ck, Ad, cd, c0, c1, c2, c3, c4, hr, hle, hj, hn1, hn2⟩ := hh k hk
    exact ⟨b, o, Ak, ck, Ad, cd, d, e, hB, c0, c1, c2, c3, c4, hr, hle, hj, hn1, hn2⟩
theorem JT.keyW_sum (ks : List Bs) : JT.keyW ks ≤ 8 * (ks.length + (ks.map List.length).sum) := by
  unfold JT.keyW
  induction ks with
  | nil => simp
  | cons k ks ih => simp only [List.map_cons, List.sum_cons, List.length_cons]; omega
theorem JT.wts_append (l m : List JT) : JT.wts (l ++ m) = JT.wts l + JT.wts m := by
  induction l with
  | nil => simp [JT.wts]
  | cons a l ih => simp only [List.cons_append, JT.wts, ih]; omega

section
variable {H : Type} {enc : TypeId × Value → H} {P : Program} {w : World} {base : Nat} {spare : Nat → Bool} {held : Bool}
theorem open_slice_fields {t e : TypeId} {fs : Array Field} {fuel : Nat} {cs : List Value} {x : DataW H × List MemPlace} (ht : P.underlying t = some (.slice e)) (he : P.underlying e = some (.struct fs))
    (hone : oneCellFields P fs = true) (hC : P.cellsOf e = fs.size) (h : DataW.trod enc P w base spare held fuel t cs = some x) :
    (cs = [.slice none 0 0] ∧ x = (.nil, [])) ∨
    ∃ (a : Addr) (len cap m : Nat) (D : Nat → DataW H) (Pl : Nat → List MemPlace), cs = [.slice (some a) len cap] ∧ base ≤ a.block ∧ len ≤ cap ∧ cap ≤ maxLen ∧ m = (if spare a.block then cap else len) ∧
      x = (.slice ((List.range len).map D) ((List.range (m - len)).map fun j => D (len + j)), MemPlace.row a (m * fs.size) ++ (List.range m).flatMap Pl) ∧
      ∀ i, i < m → ∃ (ys : List (DataW H × List MemPlace)) (n : Nat), D i = .agg (ys.map (·.1)) ∧ Pl i = ys.flatMap (·.2) ∧ ys.length = fs.size ∧
        ∀ (j : Nat) (f : Field), fs[j]? = some f → ∃ (v : Value) (y : DataW H × List MemPlace), w.cell? (a.add (i * fs.size + j)) = some v ∧ ys[j]? = some y ∧ DataW.trod enc P w base spare held n f.type [v] = some y := by
  rcases open_slice ht h with h0 | ⟨a, len, cap, m, n, D, Pl, hcs, hb, hl, hm, hmm, hx, hi⟩
  · exact .inl h0
  · refine .inr ⟨a, len, cap, m, D, Pl, hcs, hb, hl, hm, hmm, by rw [hC] at hx; exact hx, fun i him => ?_⟩
    obtain ⟨cs', hc, ht'⟩ := hi i him
    rw [hC] at hc
    obtain ⟨ys, n', hn', hy, hlen, hyl, hf⟩ := DataW.trod_struct he ht'
    obtain ⟨_, hcl, hat⟩ := World.cells?_some hc
    simp only [Prod.mk.injEq] at hy
    refine ⟨ys, n', hy.1, hy.2, hyl, fun j f hj => ?_⟩
    obtain ⟨ho, hk⟩ := hone_of hone j f hj
    have hjl : j < fs.size := (Array.getElem?_eq_some_iff.1 hj).1
    have hcell := hat j hjl
    have hv : cs'[j]? = some (cs'[j]'(by omega)) := List.getElem?_eq_getElem (by omega)
    have h1 := hf j f hj
    rw [ho, hk] at h1
    have hone' : (cs'.drop j).take 1 = [cs'[j]'(by omega)] := by
      rw [List.drop_eq_getElem_cons (by omega)]
      rfl
    rw [hone'] at h1
    have hys : ys[j]? = some (ys[j]'(by omega)) := List.getElem?_eq_getElem (by omega)
    refine ⟨_, _, ?_, hys, h1.trans hys⟩
    rw [← Go.Deep.add_add, hcell, hv]
end

theorem slice_le {H : Type} {enc : TypeId × Value → H} {w : World} {base : Nat} {spare : Nat → Bool} {held : Bool} {t e : TypeId} {fuel n c : Nat} {A : Option Addr} {x : DataW H × List MemPlace} (ht : Tryd.prog.underlying t = some (.slice e)) (h : DataW.trod enc Tryd.prog w base spare held fuel t [.slice A n c] = some x) : n ≤ c := by
  rcases open_slice ht h with ⟨hcs, _⟩ | ⟨a, len, cap, m, k, D, Pl, hcs, hb, hl, _⟩
  · simp only [List.cons.injEq, Value.slice.injEq, and_true] at hcs; omega
  · simp only [List.cons.injEq, Value.slice.injEq, and_true] at hcs; omega
theorem bulk_range {H : Type} (D : Nat → DataW H) : ∀ m n, n ≤ m → Rows.uptoBulkAll ((List.range n).map D) ≤ Rows.uptoBulkAll ((List.range m).map D) := by
  intro m
  induction m with
  | zero => intro n h; obtain rfl : n = 0 := by omega
            exact Nat.le_refl _
  | succ m ih =>
    intro n h
    by_cases hn : n = m + 1
    · subst hn; exact Nat.le_refl _
    · have h1 := ih n (by omega)
      rw [List.range_succ (n := m), List.map_append, bulks.append]
      omega
set_option maxRecDepth 100000 in
theorem open_jsons {H : Type} {enc : TypeId × Value → H} {w : World} {base : Nat} {spare : Nat → Bool} {held : Bool} : ∀ (N : Nat) {fuel : Nat} {v : Value} {d : DataW H} {p : List MemPlace},
    DataW.trod enc Tryd.prog w base spare held fuel 23 [v] = some (d, p) → Rows.uptoBulk d ≤ N →
    ∃ (A : Option Addr) (c : Nat) (l : List JT), v = .slice A l.length c ∧ JsAt w w.heap.size N l A ∧ l.length + 1 ≤ Rows.uptoBulk d ∧ JT.wts l + 8 ≤ 8 * Rows.uptoBulk d := by
  intro N
  induction N with
  | zero => intro _ _ d _ _ h; have := bulks.one_le d; omega
  | succ N ih =>
    intro fuel v d p hf hN
    rcases open_slice_fields Tryd.underlying23 Tryd.underlying25 (by kernel_rfl) (by kernel_rfl) hf with ⟨hcs, hx⟩ | ⟨a, len, cap, m, D, Pl, hcs, hbs, hl, hm, hmm, hx, hi⟩
    · simp only [List.cons.injEq, and_true] at hcs
      subst hcs
      refine ⟨none, 0, [], rfl, fun h => by simp at h, ?_, ?_⟩
      · have := bulks.one_le d; simpa using this
      · have := bulks.one_le d; simp only [JT.wts]; omega
    · simp only [List.cons.injEq, and_true] at hcs
      subst hcs
      have hlm : len ≤ m := by rw [hmm]; split <;> omega
      simp only [Prod.mk.injEq] at hx
      have hxb : Rows.uptoBulkAll ((List.range len).map D) + 1 ≤ Rows.uptoBulk d := by
        rw [hx.1]; simp only [Rows.uptoBulk]; omega
      have key : ∀ n, n ≤ len → ∃ l : List JT, l.length = n ∧ (∀ k (hk : k < l.length), ∃ Ak ck Ad cd,
          w.cell? ⟨a.block, a.off + k * 5, none⟩ = some (.int .i64 l[k].kind) ∧ w.cell? ⟨a.block, a.off + k * 5 + 1, none⟩ = some (.int .i64 l[k].num) ∧ w.cell? ⟨a.block, a.off + k * 5 + 2, none⟩ = some (strV l[k].text) ∧ w.cell? ⟨a.block, a.off + k * 5 + 3, none⟩ = some (.slice Ak l[k].keys.length ck) ∧ w.cell? ⟨a.block, a.off + k * 5 + 4, none⟩ = some (.slice Ad l[k].kids.length cd) ∧
          Rd w w.heap.size 1 Ak l[k].keys.length (txtV l[k].keys) ∧ l[k].keys.length ≤ ck ∧ JsAt w w.heap.size N l[k].kids Ad ∧ (-9223372036854775808 ≤ l[k].num ∧ l[k].num ≤ 9223372036854775807) ∧ (-9223372036854775808 ≤ l[k].kind ∧ l[k].kind ≤ 9223372036854775807)) ∧
          l.length ≤ Rows.uptoBulkAll ((List.range n).map D) ∧ JT.wts l ≤ 8 * Rows.uptoBulkAll ((List.range n).map D) := by
        intro n
        induction n with
        | zero => intro _; exact ⟨[], rfl, by simp, by simp, by simp [JT.wts]⟩
        | succ n ihn =>
          intro hn
          obtain ⟨l, hln, hc, hbk, hbw⟩ := ihn (by omega)
          obtain ⟨ys, k, hD, _, hyl, hfs⟩ := hi n (by omega)
          obtain ⟨v0, y0, c0, e0, t0⟩ := hfs 0 _ rfl
          obtain ⟨v1, y1, c1, e1, t1⟩ := hfs 1 _ rfl
          obtain ⟨v2, y2, c2, e2, t2⟩ := hfs 2 _ rfl
          obtain ⟨v3, y3, c3, e3, t3⟩ := hfs 3 _ rfl
          obtain ⟨v4, y4, c4, e4, t4⟩ := hfs 4 _ rfl
          obtain ⟨x0, q0, rfl, w0⟩ := DataW.trod_int Tryd.underlying3 t0
          obtain ⟨x1, q1, rfl, w1⟩ := DataW.trod_int Tryd.underlying3 t1
          obtain ⟨x2, q2, rfl, _⟩ := DataW.trod_string Tryd.underlying9 t2
          obtain ⟨d3, p3⟩ := y3
          obtain ⟨d4, p4⟩ := y4
          have hb4 : Rows.uptoBulk (D n) = Rows.uptoBulkAll (ys.map (·.1)) + 1 := by rw [hD]; simp only [Rows.uptoBulk]
          have hall : Rows.uptoBulkAll (ys.map (·.1)) = 2 + (x2.data.toList.length + 1) + Rows.uptoBulk d3 + Rows.uptoBulk d4 := by
            match ys, hyl, e0, e1, e2, e3, e4 with
            | [z0, z1, z2, z3, z4], _, e0, e1, e2, e3, e4 =>
              simp at e0 e1 e2 e3 e4
              subst e0 e1 e2 e3 e4
              simp only [List.map_cons, List.map_nil, Rows.uptoBulkAll, Rows.uptoBulk]
              omega
          have hsum : Rows.uptoBulkAll ((List.range (n + 1)).map D) = Rows.uptoBulkAll ((List.range n).map D) + Rows.uptoBulk (D n) := by
            rw [List.range_succ, List.map_append, bulks.append]; simp [Rows.uptoBulkAll]
          have hle : Rows.uptoBulkAll ((List.range (n + 1)).map D) ≤ Rows.uptoBulkAll ((List.range len).map D) := bulk_range D len (n + 1) (by omega)
          obtain ⟨Ak, ck, ks, rfl, hrk, hbk3⟩ := open_texts_at t3
          obtain ⟨Ad, cd, kd, rfl, hjd, hb5, hw5⟩ := ih t4 (by omega)
          simp only [List.cons.injEq, and_true] at q0 q1 q2
          subst q0 q1 q2
          have hW : JT.wts [JT.mk x0 x1 x2.data.toList ks kd] ≤ 8 * Rows.uptoBulk (D n) := by
            have := JT.keyW_sum ks
            simp only [JT.wts, JT.wt]
            omega
          have b0 := bounds_i64 w0
          have b1 := bounds_i64 w1
          refine ⟨l ++ [JT.mk x0 x1 x2.data.toList ks kd], by simp [hln], fun i hi => ?_, ?_, ?_⟩
          · by_cases hil : i < l.length
            · rw [List.getElem_append_left hil]
              exact hc i hil
            · have hin : i = n := by simp at hi; omega
              have hget : (l ++ [JT.mk x0 x1 x2.data.toList ks kd])[i] = JT.mk x0 x1 x2.data.toList ks kd := by
                rw [List.getElem_append_right (by omega)]; simp
              rw [hget, hin]
              have g0 := add_cells c0
              have g1 := add_cells c1
              have g2 := add_cells c2
              have g3 := add_cells c3
              have g4 := add_cells c4
              refine ⟨Ak, ck, Ad, cd, g0, g1, ?_, g3, g4, hrk, slice_le Tryd.underlying22 t3, hjd, ⟨b1.1, b1.2⟩, b0.1, b0.2⟩
              unfold strV
              simp only [JT.text, Lib.mk_data]
              exact g2
          · rw [hsum]; have := bulks.one_le (D n); simp only [List.length_append, List.length_singleton]; omega
          · rw [hsum, JT.wts_append]; omega
      obtain ⟨l, hln, hc, hbk, hbw⟩ := key len (Nat.le_refl _)
      subst hln
      refine ⟨some a, cap, l, rfl, fun hn => ?_, by omega, by omega⟩
      obtain ⟨ys, k, _, _, _, hfs⟩ := hi 0 (by omega)
      obtain ⟨v0, y0, c0, _⟩ := hfs 0 _ rfl
      exact ⟨a.block, a.off, by rw [← spot_none c0 (by simp)], World.block_lt_of_cell? w ⟨a.block, _, none⟩ (add_cells c0), hc⟩

theorem list5 {α : Type} : ∀ {l : List α}, l.length = 5 → ∃ a b c d e, l = [a, b, c, d, e]
  | [a, b, c, d, e], _ => ⟨a, b, c, d, e, rfl⟩
theorem array5 {α : Type} {l : Array α} (h : l.size = 5) : ∃ a b c d e, l = #[a, b, c, d, e] := by
  obtain ⟨a, b, c, d, e, hl⟩ := list5 (l := l.toList) (by simpa using h)
  exact ⟨a, b, c, d, e, by rw [← Array.toArray_toList (xs := l), hl]⟩
set_option maxRecDepth 100000 in
/-- a value that is an argument -/
theorem open_json {H : Type} {enc : TypeId × Value → H} {w : World} {base : Nat} {spare : Nat → Bool} {held : Bool} {b0 : Nat} {v : Value} {d : DataW H} {p : List MemPlace}
    (hv : Value.okWide Tryd.prog w .any b0 25 v) (h : DataW.Trod enc Tryd.prog w base spare held 25 v d p) :
    ∃ (j : JT) (Ak Ad : Option Addr) (ck cd N : Nat), v = jPV j.kind j.num j.text j.keys.length j.kids.length Ak Ad ck cd ∧ JIn w w.heap.size N j Ak ck Ad ∧ j.wt ≤ 8 * Rows.uptoBulk d ∧ j.keys.length ≤ Rows.uptoBulk d ∧ j.kids.length ≤ Rows.uptoBulk d ∧ j.text.length ≤ Rows.uptoBulk d := by
  obtain ⟨cs, rfl, hsz⟩ := okWide_struct Tryd.underlying25 hv
  obtain ⟨s0, s1, s2, s3, s4, rfl⟩ := array5 (hsz.trans (by kernel_rfl))
  obtain ⟨fuel, hf⟩ := h
  obtain ⟨ys, n', hn', hy, hlen, hyl, hfs⟩ := DataW.trod_struct Tryd.underlying25 hf
  simp only [Prod.mk.injEq] at hy
  have hone : oneCellFields Tryd.prog #[{ name := "Kind", type := 3, offset := 0, embedded := false, tag := "", pkgPath := "", byteOffset := 0 }] = true := by kernel_rfl
  have h3 : Tryd.prog.cellsOf 3 = 1 := by kernel_rfl
  have h9 : Tryd.prog.cellsOf 9 = 1 := by kernel_rfl
  have h22 : Tryd.prog.cellsOf 22 = 1 := by kernel_rfl
  have h23 : Tryd.prog.cellsOf 23 = 1 := by kernel_rfl
  clear hone
  match ys, hyl with
  | [y0, y1, y2, y3, y4], _ =>
    have t0 := hfs 0 _ rfl
    have t1 := hfs 1 _ rfl
    have t2 := hfs 2 _ rfl
    have t3 := hfs 3 _ rfl
    have t4 := hfs 4 _ rfl
    simp [Value.cells, h3, h9, h22, h23] at t0 t1 t2 t3 t4
    obtain ⟨x0, q0, rfl, w0⟩ := DataW.trod_int Tryd.underlying3 t0
    obtain ⟨x1, q1, rfl, w1⟩ := DataW.trod_int Tryd.underlying3 t1
    obtain ⟨x2, q2, rfl, _⟩ := DataW.trod_string Tryd.underlying9 t2
    obtain ⟨d3, p3⟩ := y3
    obtain ⟨d4, p4⟩ := y4
    obtain ⟨Ak, ck, ks, rfl, hrk, hbk3⟩ := open_texts_at t3
    obtain ⟨Ad, cd, kd, rfl, hjd, hb5, hw5⟩ := open_jsons _ t4 (Nat.le_refl _)
    simp only [List.cons.injEq, and_true] at q0 q1 q2
    subst q0 q1 q2
    have hbd : Rows.uptoBulk d = 2 + (x2.data.toList.length + 1) + Rows.uptoBulk d3 + Rows.uptoBulk d4 + 1 := by
      rw [hy.1]
      simp only [List.map_cons, List.map_nil, Rows.uptoBulk, Rows.uptoBulkAll]
      omega
    have b0 := bounds_i64 w0
    have b1 := bounds_i64 w1
    refine ⟨JT.mk x0 x1 x2.data.toList ks kd, Ak, Ad, ck, cd, _, ?_, ⟨hrk, slice_le Tryd.underlying22 t3, hjd, b1, b0⟩, ?_, ?_, ?_, ?_⟩
    · unfold jPV
      simp only [JT.kind, JT.num, JT.text, JT.keys, JT.kids, Lib.mk_data]
    · have := JT.keyW_sum ks
      simp only [JT.wt]
      omega
    · simp only [JT.keys]; omega
    · simp only [JT.kids]; omega
    · simp only [JT.text]; omega
end Go.Proofs.YtgpjcjnimheglaaDoor
