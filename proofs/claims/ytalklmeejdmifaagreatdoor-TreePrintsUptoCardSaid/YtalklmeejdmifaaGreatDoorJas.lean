/-
  JOINED of the texts TY LT UK YH OpenT LaidW LaidL
-/
import Derived.Test.YtalklmeejdmifaaGreatDoorJan
import Derived.Test.YtalklmeejdmifaaGreatDoorJab
import Derived.Lib.RuneBytes
import Derived.Lib.Strings
import Derived.Test.YtalklmeejdmifaaGreatDoorJag
import Derived.Deep.DeepCutAuto
import Derived.Lib.ConvBytes
import Derived.Laws.Strings3
import Derived.Laws.Closers25
import Derived.Laws.Closers25b
import Derived.BigCall
import Derived.BigGuard
import Derived.Test.YtalklmeejdmifaaGreatDoorShelfX
import Derived.Shelf.Spec.BytesIndexFunc
import Derived.Deep.RegionHeld3
import Derived.Lib.IndexMore
import Derived.Test.YtalklmeejdmifaaGreatDoorRows
import Derived.WalkKit
import Derived.WalkSpells
import Derived.WalkLawsBesides
import Derived.Below
import Derived.Laws.OwnMore
import Derived.Deep.AppendLies
import Derived.Deep.Draws
import Derived.Lib.Hide
import Derived.Deep.QuietTactic
import Derived.BigQuiet
import Derived.IntWalk
import Derived.Test.YtalklmeejdmifaaGreatDoorShelfW
import Derived.Shelf.Strings.SlTrimAscii
import Derived.Lib.LaidTab
import Derived.Lib.AtoiAll
import Derived.Lib.IndexLaws
import Derived.Lib.SlTrimSet
import Derived.Lib.ItoaNum
import Derived.Lib.Atoi
import Derived.WalkMore
import Derived.ScopeJumps
import Derived.Test.YtalklmeejdmifaaGreatDoorJao
import Derived.StillTailTactics
import Derived.Handy
import Derived.Maps.OwnOps
import Derived.Carry
import Derived.Deep.CutBlock
import Derived.Laws.AppendOwnNone
import Derived.Test.YtalklmeejdmifaaGreatDoorJar
import Derived.Test.YtalklmeejdmifaaGreatDoorShelf
import Derived.Shelf.Strings.Builder1
import Derived.Test.YtalklmeejdmifaaGreatDoorJad
import Derived.ProofKit
import Derived.OpenShut
import Derived.JoinedCond
import Derived.Deep.Slices
import Derived.Deep.Fields
import Derived.ChangeSame
import Derived.SliceStrings
import Derived.PinnedBridge
import Derived.Lib.LaidU8
import Derived.Lib.LaidIn
import Derived.RowKitTokens
import Derived.LaidLaws
import Derived.Stop.Joined
import Derived.Stop.LaidErr
import Derived.Shelf.Vars
import Derived.Test.YtalklmeejdmifaaGreatDoorJae
/-
  TREES, plainly: the tokens of a text stand side by side.
-/
namespace Go.Proofs.YtalklmeejdmifaaGreatDoor

/-- tokens from place a to place e -/
def Lx.Chain : Nat → Nat → List (Nat × Nat × Nat) → Prop
  | a, e, [] => a = e
  | a, e, t :: R => t.2.1 = a ∧ 1 ≤ t.2.2 ∧ 1 ≤ t.1 ∧ t.1 ≤ 8 ∧ Lx.Chain (a + t.2.2) e R
theorem Lx.chain_tok : ∀ (n a : Nat) (l : List UInt8), l.length ≤ n → Lx.Chain a (a + l.length) (Lx.tokR a l)
  | 0, a, l, h => by
    obtain rfl : l = [] := List.eq_nil_of_length_eq_zero (by omega)
    rw [Lx.tokR_nil]; rfl
  | n + 1, a, l, h => by
    by_cases hne : l = []
    · subst hne; rw [Lx.tokR_nil]; rfl
    · have h1 := Lx.one_le l hne
      rw [Lx.tokR_cons a hne]
      refine ⟨rfl, h1.1, h1.2.2.1, h1.2.2.2, ?_⟩
      have := Lx.chain_tok n (a + (Lx.oneM l).2) (l.drop (Lx.oneM l).2) (by rw [List.length_drop]; omega)
      rw [List.length_drop] at this
      dsimp only
      rwa [show a + (Lx.oneM l).2 + (l.length - (Lx.oneM l).2) = a + l.length by omega] at this
theorem Lx.chain_head {a e : Nat} {R : List (Nat × Nat × Nat)} (h : Lx.Chain a e R) : a = (R[0]?.map (·.2.1)).getD e := by
  cases R with
  | nil => exact h
  | cons t R => simp [h.1]
theorem Lx.chain_drop {e : Nat} : ∀ (i a : Nat) (R : List (Nat × Nat × Nat)), Lx.Chain a e R → Lx.Chain ((R[i]?.map (·.2.1)).getD e) e (R.drop i)
  | 0, a, R, h => by rw [List.drop_zero, ← Lx.chain_head h]; exact h
  | i + 1, a, [], h => by simp; rfl
  | i + 1, a, t :: R, h => by simpa using Lx.chain_drop i _ R h.2.2.2.2
theorem Lx.chain_le {e : Nat} : ∀ (a : Nat) (R : List (Nat × Nat × Nat)), Lx.Chain a e R → a ≤ e
  | a, [], h => by have : a = e := h; omega
  | a, t :: R, h => by have := Lx.chain_le _ R h.2.2.2.2; omega
theorem Lx.chain_side {s : List UInt8} {T : List (Nat × Nat × Nat)} (h : Lx.Chain 0 s.length T) (hT : T.length ≤ 400000000) : Tr.Side s T := by
  have habs : ∀ i, Lx.Chain (Tr.absP s T i) s.length (T.drop i) := fun i => Lx.chain_drop i 0 T h
  have hk : ∀ k (hk : k < T.length), T[k].2.1 = Tr.absP s T k ∧ 1 ≤ T[k].2.2 ∧ 1 ≤ T[k].1 ∧ T[k].1 ≤ 8 ∧ Lx.Chain (Tr.absP s T k + T[k].2.2) s.length (T.drop (k + 1)) := fun k hk => by
    have := habs k
    rw [List.drop_eq_getElem_cons hk] at this
    exact this
  have htile : ∀ k (h : k < T.length), T[k].2.1 + T[k].2.2 = Tr.absP s T (k + 1) := fun k hlt => by
    obtain ⟨h1, _, _, _, h5⟩ := hk k hlt
    rw [h1, Lx.chain_head h5]
    unfold Tr.absP
    rw [List.getElem?_drop, Nat.add_zero]
  refine ⟨⟨fun t ht => ?_, fun i j hij => ?_⟩, htile, ?_, hT⟩
  · obtain ⟨k, hlt, rfl⟩ := List.getElem_of_mem ht
    obtain ⟨h1, h2, h3, h4, h5⟩ := hk k hlt
    have := Lx.chain_le _ _ h5
    omega
  · induction j with
    | zero => obtain rfl : i = 0 := by omega
              exact Nat.le_refl _
    | succ j ih =>
      by_cases e : i = j + 1
      · subst e; exact Nat.le_refl _
      · have h1 := ih (by omega)
        by_cases hj : j < T.length
        · have h2 := htile j hj
          have h3 := (hk j hj).1
          omega
        · have h2 := Tr.abs_end s T j (by omega)
          have h3 := Tr.abs_end s T (j + 1) (by omega)
          omega
  · have := Lx.chain_head (habs 0)
    rw [List.drop_zero] at this
    have h0 := Lx.chain_head h
    omega
/-- no sign is a word, and no word a question mark -/
def Plainly (s : List UInt8) (T : List (Nat × Nat × Nat)) : Prop := ∀ t ∈ T, (t.1 = 7 → Tr.subT s t ≠ Tr.sTrue ∧ Tr.subT s t ≠ Tr.sFalse) ∧ (t.1 = 4 → Tr.subT s t ≠ [63])
theorem Lx.sign_le (l : List UInt8) : Lx.signM l ≤ 2 := by
  unfold Lx.signM
  split
  · omega
  · split
    · omega
    · split <;> omega
theorem Lx.one_plain (l : List UInt8) : ((Lx.oneM l).1 = 7 → (Lx.oneM l).2 ≤ 2) ∧ ((Lx.oneM l).1 = 4 → l.take (Lx.oneM l).2 ∈ Lx.words) := by
  unfold Lx.oneM
  split
  · exact ⟨by simp, by simp⟩
  split
  · exact ⟨by simp, by simp⟩
  split
  · split <;> exact ⟨by simp, by simp⟩
  split
  · refine ⟨?_, ?_⟩
    · dsimp only; split <;> intro h <;> omega
    · dsimp only
      split
      · rename_i h
        intro _
        unfold Lx.wordM at h
        simpa using h
      · intro h; omega
  split
  · refine ⟨?_, ?_⟩ <;> (dsimp only; split <;> intro h <;> omega)
  split
  · refine ⟨?_, ?_⟩ <;> (dsimp only; split <;> intro h <;> omega)
  split
  · exact ⟨fun _ => Lx.sign_le l, by simp⟩
  · exact ⟨by simp, by simp⟩
theorem Lx.plainly : ∀ (n a : Nat) (s : List UInt8), s.length - a ≤ n → Plainly s (Lx.tokR a (s.drop a))
  | 0, a, s, h => by
    have e : s.drop a = [] := List.drop_eq_nil_of_le (by omega)
    rw [e, Lx.tokR_nil]
    intro t ht; simp at ht
  | n + 1, a, s, h => by
    by_cases hne : s.drop a = []
    · rw [hne, Lx.tokR_nil]
      intro t ht; simp at ht
    · have h1 := Lx.one_le _ hne
      rw [Lx.tokR_cons a hne, List.drop_drop]
      rw [List.length_drop] at h1
      have ih := Lx.plainly n (a + (Lx.oneM (s.drop a)).2) s (by omega)
      intro t ht
      rcases List.mem_cons.1 ht with rfl | ht
      · obtain ⟨p7, p4⟩ := Lx.one_plain (s.drop a)
        unfold Tr.subT
        dsimp only
        refine ⟨fun h7 => ?_, fun h4 e => ?_⟩
        · have hl : ((s.drop a).take (Lx.oneM (s.drop a)).2).length ≤ 2 := by
            rw [List.length_take]
            have := p7 h7
            omega
          refine ⟨fun e => ?_, fun e => ?_⟩ <;> (rw [e] at hl; simp [Tr.sTrue, Tr.sFalse] at hl)
        · have := p4 h4
          rw [e] at this
          revert this
          decide
      · exact ih t ht
theorem Lx.tok_side (s : List UInt8) (hs : s.length ≤ 400000000) (hT : (Lx.tokR 0 s).length ≤ s.length) : Tr.Side s (Lx.tokR 0 s) ∧ Plainly s (Lx.tokR 0 s) := by
  have h1 := Lx.chain_tok s.length 0 s (Nat.le_refl _)
  rw [Nat.zero_add] at h1
  have h2 := Lx.plainly s.length 0 s (by omega)
  rw [List.drop_zero] at h2
  exact ⟨Lx.chain_side h1 (by omega), h2⟩
end Go.Proofs.YtalklmeejdmifaaGreatDoor
/-
  THE WALK of the law LexTiles.
-/
namespace Go.Proofs.YtalklmeejdmifaaGreatDoor
open Go.RowKit

theorem Rd.tk {w : World} {B : Nat} {A : Option Addr} {l : List Tk} {k : Nat} (h : Rd w B 3 A l.length (tksC l)) (hk : k < l.length) :
    ∃ b o, A = some ⟨b, o, none⟩ ∧ b < B ∧ w.cell? ⟨b, o + k * 3, none⟩ = some (.int .i64 l[k].1) ∧ w.cell? ⟨b, o + k * 3 + 1, none⟩ = some (.int .i64 l[k].2.1) ∧ w.cell? ⟨b, o + k * 3 + 2, none⟩ = some (.int .i64 l[k].2.2) := by
  obtain ⟨b, o, e, hb, hc⟩ := h.2 (by omega)
  refine ⟨b, o, e, hb, ?_, ?_, ?_⟩
  · have := hc (k * 3 + 0) _ (tksC_get l k 0 (by omega) hk); simpa [Nat.add_assoc] using this
  · have := hc (k * 3 + 1) _ (tksC_get l k 1 (by omega) hk); simpa [Nat.add_assoc] using this
  · have := hc (k * 3 + 2) _ (tksC_get l k 2 (by omega) hk); simpa [Nat.add_assoc] using this

theorem Lx.tokR_len : ∀ (n a : Nat) (l : List UInt8), l.length ≤ n → (Lx.tokR a l).length ≤ l.length
  | 0, a, l, h => by
    obtain rfl : l = [] := List.eq_nil_of_length_eq_zero (by omega)
    rw [Lx.tokR_nil]; exact Nat.le_refl _
  | n + 1, a, l, h => by
    by_cases hne : l = []
    · subst hne; rw [Lx.tokR_nil]; exact Nat.le_refl _
    · have h1 := Lx.one_le l hne
      rw [Lx.tokR_cons a hne, List.length_cons]
      have := Lx.tokR_len n (a + (Lx.oneM l).2) (l.drop (Lx.oneM l).2) (by rw [List.length_drop]; omega)
      rw [List.length_drop] at this
      omega

end Go.Proofs.YtalklmeejdmifaaGreatDoor
/-
  WALKS of package tree: New.
-/
namespace Go.Proofs.YtalklmeejdmifaaGreatDoor
open Go.RowKit

/-- a text's tree in memory, all its blocks of F -/
structure TreeOf (w : World) (F : Nat → Prop) (gt : Nat) (s : Bs) (T : List Tk) (ks : List Tr.Kd) (ts : List Tr.PT) : Prop where
  ex : ∃ d A c, TreeIs w F gt d A c T ks ts ∧ DocAt w d s T ∧ F d ∧ RowF w F A (tksC T) ∧ T.length ≤ c ∧ d ≠ gt
  at_ : F gt
theorem Aft.toBelow {w w' : World} {g : Nat} {B : Nat} (h : Aft (Old w) g w w') (hB : B ≤ w.heap.size) (hg : B ≤ g) : Below B w w' :=
  ⟨h.calm.os, h.calm.tape, h.calm.output, h.size, fun x hx => h.oth x (Nat.lt_of_lt_of_le hx hB) (by omega)⟩
set_option maxHeartbeats 4000000 in
set_option maxRecDepth 100000 in
theorem tnew_walk (s : Bs) (m : Int) (w : World) (hM : MaxL w m) (hT8 : T8 w) (hW : WordsIs w) (hl : s.length ≤ 1048576) :
    Calls Tryz.prog 11 #[.string ⟨s.toArray⟩] w fun e w' => ∃ gt, e = .returned (.pointer (some ⟨gt, 0, none⟩)) ∧ TreeOf w' (fun x => w.heap.size ≤ x) gt s (Lx.tokR 0 s) (Tr.kidsP s (Lx.tokR 0 s) ((Lx.tokR 0 s).length + 1) 0).1 (Tr.tailP s (Lx.tokR 0 s) (Tr.kidsP s (Lx.tokR 0 s) ((Lx.tokR 0 s).length + 1) 0).2) ∧ Below w.heap.size w w' := by
  have hnew := lnew_walk s m w hM hT8 hW (by omega)
  have hTl := Lx.tokR_len s.length 0 s (Nat.le_refl _)
  obtain ⟨hS, -⟩ := Lx.tok_side s (by omega) hTl
  generalize Lx.tokR 0 s = T at *
  have X : Txts s T := ⟨hS.good, by omega, by omega⟩
  have HTl : Hid (T.length ≤ 1048576) := by show _ ≤ _; omega
  clear hS hTl hM hT8 hW hl
  go_enter Tryz.func11, Tryz.ntmps11
  go_wp2_with fail
  refine hnew.mono ?_
  clear hnew
  rintro e w1 ⟨d, rfl, hd, hD, hb1⟩
  have hd2 : Below w1.heap.size w1 (w1.alloc (.cells #[.pointer (some ⟨d, 0, none⟩), .slice none 0 0, .slice none 0 0, .slice none 0 0] 87)) := (Below.refl _ _).alloc (Nat.le_refl _) _
  have hB : Blk (w1.alloc (.cells #[.pointer (some ⟨d, 0, none⟩), .slice none 0 0, .slice none 0 0, .slice none 0 0] 87)) w1.heap.size 87 #[.pointer (some ⟨d, 0, none⟩), .slice none 0 0, .slice none 0 0, .slice none 0 0] := Blk.new _ _ _
  have hD2 := hD.below hd2
  obtain ⟨gt, hgt⟩ : ∃ g, g = w1.heap.size := ⟨_, rfl⟩
  rw [← hgt] at hB
  have hdl : d < gt := by obtain ⟨_, _, h, _⟩ := hD; rw [hgt]; exact h.lt
  have Hgt := Lib.hid hgt
  go_upto_region 2 with fail
  rw [← hgt]
  clear hgt
  generalize w1.alloc (.cells #[.pointer (some ⟨d, 0, none⟩), .slice none 0 0, .slice none 0 0, .slice none 0 0] 87) = w2 at *
  have htk := ltokens_walk d s T w2 hD2 (by have := HTl.out; omega)
  have z0 := hB.cell 0
  simp at z0
  go_wp2_with fail
  refine htk.mono ?_
  clear htk
  rintro e w3 ⟨A, rfl, ⟨c0, hown⟩, hd3⟩
  have hB3 := hB.below hd3 hB.lt
  have z1 := hB3.cell 1
  have y1 := hB3.frozen 1
  simp at z1
  have hB4 := hB3.set_ 1 (.slice A T.length T.length)
  simp at hB4
  have hrow : RowF w3 (fun x => w2.heap.size ≤ x) A (tksC T) := (own_row hown fun q hq => (hown.lt q hq).1).2
  have hgl := hB.lt
  go_upto_region 3 with fail
  have hz4 : w3.heap.size ≤ (w3.setCell ⟨gt, 1, none⟩ (.slice A T.length T.length)).heap.size := by simp [World.setCell]
  have hrow4 : RowF (w3.setCell ⟨gt, 1, none⟩ (.slice A T.length T.length)) (fun x => w2.heap.size ≤ x) A (tksC T) := hrow.keep hz4 fun x hx _ => ⟨Below.heap_setCell _ ⟨gt, 1, none⟩ _ x (by have hx : w2.heap.size ≤ x := hx; show x ≠ gt; omega), hx⟩
  have hb4 : Below gt w1 (w3.setCell ⟨gt, 1, none⟩ (.slice A T.length T.length)) := (((by have := hd2; rwa [← Hgt.out] at this) : Below gt w1 w2).trans (hd3.mono (Nat.le_of_lt hgl))).setCell (p := ⟨gt, 1, none⟩) (Nat.le_refl _) _
  clear z0 z1 y1 hB hB3 hown hrow hd3 hD2 hd2
  generalize w3.setCell ⟨gt, 1, none⟩ (.slice A T.length T.length) = w4 at *
  have hD4 := hD.below (by have := hb4; rwa [Hgt.out] at this)
  obtain ⟨A1, c1, hB1, _⟩ := id hD4
  have hrd := read_nil X hB4 hB1 (hrow4.keep (F' := fun x => x ≠ gt) (Nat.le_refl _) fun x hx _ => ⟨rfl, (by have hx : w2.heap.size ≤ x := hx; show x ≠ gt; omega)⟩) (Nat.le_refl _)
  go_wp2_with fail
  refine hrd.mono ?_
  clear hrd
  rintro e w5 ⟨n, rfl, hA, hTr⟩
  go_wp2_with fail
  go_ret
  have hbz := hb1.size
  have hgt1 := Hgt.out
  have hz2 := hb4.size
  have hb5 : Below gt w1 w5 := hb4.trans (hA.toBelow (by omega) (Nat.le_refl _))
  have hD5 := hD.below (by rwa [hgt1] at hb5)
  refine ⟨gt, rfl, ⟨⟨d, A, T.length, ?_, hD5, hd, ?_, Nat.le_refl _, by omega⟩, by show _ ≤ _; omega⟩, hb1.trans (hb5.mono (by omega))⟩
  · obtain ⟨Av, cv, At, ct, vs, us, h1, h2, h3, h4, h5, h6, h7⟩ := hTr.ex
    exact ⟨Av, cv, At, ct, vs, us, h1, h2, h3, h4.keep (Nat.le_refl _) (fun x hx _ => ⟨rfl, by have hx : w4.heap.size ≤ x := hx; show _ ≤ _; omega⟩), KdsF.keep (Nat.le_refl _) (fun x hx _ => ⟨rfl, by have hx : w4.heap.size ≤ x := hx; show _ ≤ _; omega⟩) _ _ h5, h6.keep (Nat.le_refl _) (fun x hx _ => ⟨rfl, by have hx : w4.heap.size ≤ x := hx; show _ ≤ _; omega⟩), PtsF.keep (Nat.le_refl _) (fun x hx _ => ⟨rfl, by have hx : w4.heap.size ≤ x := hx; show _ ≤ _; omega⟩) _ _ h7⟩
  · exact hrow4.keep hA.size fun x hx hl => ⟨hA.oth x hl (by have hx : w2.heap.size ≤ x := hx; omega), by have hx : w2.heap.size ≤ x := hx; show _ ≤ _; omega⟩
end Go.Proofs.YtalklmeejdmifaaGreatDoor
/-
  THE WALK of the law TreePrints.
-/
namespace Go.Proofs.YtalklmeejdmifaaGreatDoor
open Go.RowKit

set_option maxHeartbeats 4000000 in
set_option maxRecDepth 100000 in
theorem treePrints_walk (B : ByteArray) (m : Int) (w : World) (hM : MaxL w m) (hT : T8 w) (hW : WordsIs w) (hn : B.size ≤ 1048576) :
    Calls Tryz.prog 3 #[.string B] w fun e w' => e = .returned (.bool true) ∧ Below w.heap.size w w' := by
  obtain ⟨s, rfl⟩ : ∃ s : Bs, B = ⟨s.toArray⟩ := ⟨B.data.toList, (Lib.mk_data B).symm⟩
  have hsl : s.length ≤ 1048576 := by have := mk_size s; omega
  clear hn
  have hnew := tnew_walk s m w hM hT hW hsl
  have hTl := Lx.tokR_len s.length 0 s (Nat.le_refl _)
  obtain ⟨hS, -⟩ := Lx.tok_side s (by omega) hTl
  have hall := Tr.all_fine hS
  have hAll : Hid (Tr.allP s (Lx.tokR 0 s) = (Tr.kidsP s (Lx.tokR 0 s) ((Lx.tokR 0 s).length + 1) 0).1.map (·.part) ++ Tr.tailP s (Lx.tokR 0 s) (Tr.kidsP s (Lx.tokR 0 s) ((Lx.tokR 0 s).length + 1) 0).2) := rfl
  have htl : (Tr.tailP s (Lx.tokR 0 s) (Tr.kidsP s (Lx.tokR 0 s) ((Lx.tokR 0 s).length + 1) 0).2).length ≤ 100000000 := by
    have := hall.2.2
    rw [hAll.out, List.length_append] at this
    omega
  have hk2 : (Tr.kidsP s (Lx.tokR 0 s) ((Lx.tokR 0 s).length + 1) 0).1.length ≤ 100000000 := by
    have := hall.2.2
    rw [hAll.out, List.length_append, List.length_map] at this
    omega
  have hwf : Tr.wfP (.branch 2 0 (Tr.allP s (Lx.tokR 0 s))) := by unfold Tr.wfP; exact ⟨Nat.le_refl _, by omega, hall.2.1⟩
  have HT : Hid (Tr.textOf (.branch 2 0 (Tr.allP s (Lx.tokR 0 s))) = s) := by show _ = _; unfold Tr.textOf; exact hall.1
  have hwf2 := hall.2.1
  rw [hAll.out] at hwf2
  clear hall hS hTl hM hT hW
  generalize Lx.tokR 0 s = T at *
  rw [hAll.out] at hwf HT
  generalize (Tr.kidsP s T (T.length + 1) 0).1 = ks at *
  generalize Tr.tailP s T (Tr.kidsP s T (T.length + 1) 0).2 = ts at *
  clear hAll
  go_enter Tryz.func3, Tryz.ntmps3
  go_wp2_with fail
  refine hnew.mono ?_
  clear hnew
  rintro e w1 ⟨gt, rfl, hTr, hb1⟩
  obtain ⟨d, A, c, hTi, hD, _⟩ := hTr.ex
  have hroot := root_walk hTi hk2 htl hwf2
  obtain ⟨Ak, ck, At, ct, vs, us, hB, _⟩ := hTi.ex
  clear hTr hTi
  go_wp2_with fail
  refine hroot.mono ?_
  clear hroot
  intro e w2 h2
  obtain ⟨na, nb, nt, nA, nn, rfl, hnd, hb2⟩ := h2
  have hb2' := hb1.trans (hb2.mono hb1.size)
  have hda : Below w2.heap.size w2 (w2.alloc (.cells #[.int .i64 (na : Int), .int .i64 (nb : Int), .string ⟨nt.toArray⟩, .slice nA nn nn] 26)) := (Below.refl _ _).alloc (Nat.le_refl _) _
  have hN : Blk (w2.alloc (.cells #[.int .i64 (na : Int), .int .i64 (nb : Int), .string ⟨nt.toArray⟩, .slice nA nn nn] 26)) w2.heap.size 26 #[.int .i64 (na : Int), .int .i64 (nb : Int), .string ⟨nt.toArray⟩, .slice nA nn nn] := Blk.new _ _ _
  have hnd := NdF.keep (F' := fun x => w1.heap.size ≤ x) hda.size (fun x hx hl => ⟨hda.block x hl, hx⟩) _ _ hnd
  have hb2' := hb2'.trans (hda.mono hb2'.size)
  have hB := hB.below (hb2.trans (hda.mono hb2.size)) hB.lt
  have hD := hD.below (hb2.trans (hda.mono hb2.size))
  obtain ⟨bn, hbn⟩ : ∃ x, x = w2.heap.size := ⟨_, rfl⟩
  rw [← hbn] at hN
  go_upto_region 5 with fail
  rw [← hbn]
  clear hbn hda hb2
  generalize w2.alloc (.cells #[.int .i64 (na : Int), .int .i64 (nb : Int), .string ⟨nt.toArray⟩, .slice nA nn nn] 26) = w2 at *
  have hpr := print_walk hwf hnd (by rw [HT.out]; omega)
  rw [HT.out] at hpr
  clear HT hnd hwf hwf2
  have k0 := hN.cell 0
  have k1 := hN.cell 1
  have k2 := hN.cell 2
  have k3 := hN.cell 3
  simp at k0 k1 k2 k3
  go_wp2_with fail
  refine hpr.mono ?_
  clear hpr k0 k1 k2 k3
  rintro e w3 ⟨rfl, hb3⟩
  have hB := hB.below hb3 hB.lt
  have hD := hD.below hb3
  have hb3' := hb2'.trans (hb3.mono hb2'.size)
  obtain ⟨Ad, cd, hDb, _⟩ := hD
  have b0 := hB.cell 0
  have d0 := hDb.cell 0
  simp at b0 d0
  have htx := ttext_walk b0 d0
  clear hB hDb b0 d0 hb3
  go_wp2_with fail
  refine htx.mono ?_
  clear htx
  rintro e w4 ⟨rfl, rfl⟩
  go_wp2_with fail
  go_ret
  exact ⟨by simp, hb3'⟩
end Go.Proofs.YtalklmeejdmifaaGreatDoor
/-
  ARGUMENTS OF TYPE []string AND []int, OPENED: what they read as; the bound of the second form bounds their number and their bytes.
-/
namespace Go.Proofs.YtalklmeejdmifaaGreatDoor
open Go.RowKit Go.ChangeShapes Go.WideShapes Go.Deep

namespace bulks
theorem one_le {H : Type} (d : DataW H) : 1 ≤ Rows.uptoBulk d := by
  cases d with
  | lit l => cases l <;> simp [Rows.uptoBulk]
  | nil => simp [Rows.uptoBulk]
  | ptr d => simp [Rows.uptoBulk]
  | slice elems spare => simp [Rows.uptoBulk]
  | agg parts => simp [Rows.uptoBulk]
  | iface t d => simp [Rows.uptoBulk]
  | map entries => simp [Rows.uptoBulk]
  | held h => simp [Rows.uptoBulk]
theorem append {H : Type} (l r : List (DataW H)) : Rows.uptoBulkAll (l ++ r) = Rows.uptoBulkAll l + Rows.uptoBulkAll r := by
  induction l with
  | nil => simp [Rows.uptoBulkAll]
  | cons x l ih => simp only [List.cons_append, Rows.uptoBulkAll, ih]; omega
theorem bound {H : Type} {l : List (DataW H)} (hk : Rows.uptoSmall H l = true) : Rows.uptoBulkAll l ≤ 1048576 := of_decide_eq_true hk
theorem many {H : Type} : ∀ l : List (DataW H), l.length ≤ Rows.uptoBulkAll l
  | [] => by simp [Rows.uptoBulkAll]
  | d :: l => by have := many l; have := one_le d; simp only [Rows.uptoBulkAll, List.length_cons]; omega
theorem strs {H : Type} : ∀ l : List ByteArray, l.length + (l.map fun s => s.data.toList.length).sum ≤ Rows.uptoBulkAll (Go.ChangeShapes.strs (H := H) l)
  | [] => by simp [Go.ChangeShapes.strs, Rows.uptoBulkAll]
  | s :: l => by
    have := strs (H := H) l
    simp only [Go.ChangeShapes.strs, List.map_cons, Rows.uptoBulkAll, Rows.uptoBulk, List.length_cons, List.sum_cons] at *
    omega
end bulks

theorem add_cells {w : World} {a : Addr} {k : Nat} {u : Value} (h : w.cell? (a.add k) = some u) : w.cell? ⟨a.block, a.off + k, none⟩ = some u := by
  unfold Addr.add at h
  by_cases hk : k = 0
  · subst hk
    simp only [if_true, Nat.add_zero] at h ⊢
    unfold World.cell? at h ⊢
    split at h
    · rename_i hh
      rw [hh]
      by_cases hs : a.spot.isSome = true
      · simp [hs] at h
      · simpa [hs] using h
    · cases h
  · rw [if_neg hk] at h; exact h

theorem spot_none {w : World} {a : Addr} {k : Nat} {u : Value} (h : w.cell? (a.add k) = some u) (hk : k = 0) : a = ⟨a.block, a.off, none⟩ := by
  subst hk
  unfold Addr.add at h
  simp only [if_true] at h
  obtain ⟨b, o, s⟩ := a
  unfold World.cell? at h
  split at h
  · cases s with
    | none => rfl
    | some _ => simp at h
  · cases h

set_option maxRecDepth 100000 in
theorem open_ints' {H : Type} {enc : TypeId × Value → H} {w : World} {base : Nat} {spare : Nat → Bool} {held : Bool} {b0 : Nat} {v : Value} {d : DataW H} {p : List MemPlace}
    (hv : Value.okWide Tryz.prog w .any b0 76 v) (h : DataW.Trod enc Tryz.prog w base spare held 76 v d p) :
    ∃ (A : Option Addr) (c : Nat) (l : List Int), v = .slice A l.length c ∧ Rd w w.heap.size 1 A l.length (intV l) ∧ l.length + 1 ≤ Rows.uptoBulk d := by
  obtain ⟨A, len, cap, rfl⟩ := okWide_slice Tryz.underlying76 hv
  obtain ⟨fuel, hf⟩ := h
  rcases Go.ChangeShapes.open_ints Tryz.underlying76 Tryz.underlying3 (by kernel_rfl) hf with ⟨hcs, hx⟩ | ⟨a, len', cap', zs, hcs, hbs, hl, hm, hzl, hx, hcell, hwf⟩
  · simp only [Value.cells, List.cons.injEq, Value.slice.injEq, and_true] at hcs
    obtain ⟨rfl, rfl, rfl⟩ := hcs
    exact ⟨none, 0, [], rfl, Rd.none_, by have := bulks.one_le d; simpa using this⟩
  · simp only [Value.cells, List.cons.injEq, Value.slice.injEq, and_true] at hcs
    obtain ⟨rfl, rfl, rfl⟩ := hcs
    have hlz : len ≤ zs.length := by rw [hzl]; split <;> omega
    have htl : (zs.take len).length = len := by simp; omega
    refine ⟨some a, cap, zs.take len, by rw [htl], ⟨by simp [intV], fun hn => ?_⟩, ?_⟩
    · rw [htl] at hn
      have h0 := hcell 0 (by omega)
      refine ⟨a.block, a.off, by rw [← spot_none h0 rfl], World.block_lt_of_cell? w ⟨a.block, _, none⟩ (add_cells h0), fun j u hu => ?_⟩
      have hj : j < len := by
        have := (List.getElem?_eq_some_iff.1 hu).1
        simp [intV] at this
        omega
      have h1 := add_cells (hcell j (by omega))
      rw [h1, ← hu]
      unfold intV
      rw [List.getElem?_map, List.getElem?_take, if_pos hj, List.getD_eq_getElem?_getD, List.getElem?_eq_getElem (by omega)]; rfl
    · simp only [Prod.mk.injEq] at hx
      rw [hx.1, htl]
      have := bulks.many (lits .i64 (zs.take len) : List (DataW H))
      have e : (lits .i64 (zs.take len) : List (DataW H)).length = len := by simp [lits]; omega
      rw [e] at this
      simp only [Rows.uptoBulk]
      omega

set_option maxRecDepth 100000 in
theorem open_texts_at {H : Type} {enc : TypeId × Value → H} {w : World} {base : Nat} {spare : Nat → Bool} {held : Bool} {fuel : Nat} {v : Value} {d : DataW H} {p : List MemPlace}
    (hf : DataW.trod enc Tryz.prog w base spare held fuel 73 [v] = some (d, p)) :
    ∃ (A : Option Addr) (c : Nat) (l : List Bs), v = .slice A l.length c ∧ Rd w w.heap.size 1 A l.length (txtV l) ∧ l.length + (l.map List.length).sum + 1 ≤ Rows.uptoBulk d := by
  rcases open_strings Tryz.underlying73 Tryz.underlying9 (by kernel_rfl) hf with ⟨hcs, hx⟩ | ⟨a, len, cap, ss, hcs, hbs, hl, hm, hzl, hx, hcell, _⟩
  · simp only [List.cons.injEq, and_true] at hcs
    subst hcs
    exact ⟨none, 0, [], rfl, Rd.none_, by have := bulks.one_le d; simpa using this⟩
  · simp only [List.cons.injEq, and_true] at hcs
    subst hcs
    have hlz : len ≤ ss.length := by rw [hzl]; split <;> omega
    have htl : ((ss.take len).map fun s => s.data.toList).length = len := by simp; omega
    refine ⟨some a, cap, (ss.take len).map fun s => s.data.toList, by rw [htl], ⟨by simp [txtV], fun hn => ?_⟩, ?_⟩
    · rw [htl] at hn
      have h0 := hcell 0 (by omega)
      refine ⟨a.block, a.off, by rw [← spot_none h0 rfl], World.block_lt_of_cell? w ⟨a.block, _, none⟩ (add_cells h0), fun j u hu => ?_⟩
      have hj : j < len := by
        have := (List.getElem?_eq_some_iff.1 hu).1
        simp [txtV] at this
        omega
      have h1 := add_cells (hcell j (by omega))
      rw [h1, ← hu]
      unfold txtV strV
      rw [List.getElem?_map, List.getElem?_map, List.getElem?_take, if_pos hj, List.getD_eq_getElem?_getD, List.getElem?_eq_getElem (by omega)]
      simp only [Option.map_some, Option.getD_some, Lib.mk_data]
    · simp only [Prod.mk.injEq] at hx
      rw [hx.1, htl]
      have := bulks.strs (H := H) (ss.take len)
      simp only [List.length_take, List.map_map] at this ⊢
      have e : (List.length ∘ fun s : ByteArray => s.data.toList) = fun s : ByteArray => s.data.toList.length := rfl
      rw [e]
      simp only [Rows.uptoBulk]
      omega
set_option maxRecDepth 100000 in
theorem open_texts {H : Type} {enc : TypeId × Value → H} {w : World} {base : Nat} {spare : Nat → Bool} {held : Bool} {b0 : Nat} {v : Value} {d : DataW H} {p : List MemPlace}
    (hv : Value.okWide Tryz.prog w .any b0 73 v) (h : DataW.Trod enc Tryz.prog w base spare held 73 v d p) :
    ∃ (A : Option Addr) (c : Nat) (l : List Bs), v = .slice A l.length c ∧ Rd w w.heap.size 1 A l.length (txtV l) ∧ l.length + (l.map List.length).sum + 1 ≤ Rows.uptoBulk d := by
  obtain ⟨A, len, cap, rfl⟩ := okWide_slice Tryz.underlying73 hv
  obtain ⟨fuel, hf⟩ := h
  exact open_texts_at hf
end Go.Proofs.YtalklmeejdmifaaGreatDoor
/-
  WHAT THE ROW's LIST (the tables and errors that package strconv reads) GIVES A WALK; a world that meets it.
-/
namespace Go.Proofs.YtalklmeejdmifaaGreatDoor
open Go.ChangeShapes Go.WideShapes Go.RowKit

theorem maxL_of {W : World} (h : W.ShapedOpen Tryz.prog) : ∃ m, MaxL W m :=
  Go.Proofs.cell_of_shapedOpen_int (zero := #[.int .i64 0]) (t := 3) h (by decide) (by kernel_rfl) rfl (by kernel_rfl) (by kernel_rfl) Tryz.underlying3

namespace laidW
theorem acc_eq : Rows.laid_unicode_utf8_acceptRanges = Lib.acceptData := by kernel_rfl
theorem first_eq : Rows.laid_unicode_utf8_first = Lib.firstData := Pinned.utf8First_eq
theorem pow_eq : (Rows.laid_internal_strconv_uint64pow10 : DataW Unit) = Lib.tabData .u64 Lib.pow10Tab := by kernel_rfl
theorem tab10_of {l : List (String × DataW Unit)} {W : World} (h : laidMet Tryz.prog (("internal/strconv.uint64pow10", Rows.laid_internal_strconv_uint64pow10) :: l) W) : Tab10 W := by
  rw [pow_eq] at h
  exact Lib.tabIs_of_head (n := 20) g10 (t := 384) (e := 325) (by kernel_rfl) Tryz.underlying384 Tryz.underlying325 (by kernel_rfl) (by kernel_rfl) h

abbrev frameList : List (String × DataW Unit) := [("math/bits.deBruijn32tab", Rows.laid_math_bits_deBruijn32tab), ("math/bits.deBruijn64tab", Rows.laid_math_bits_deBruijn64tab), ("internal/strconv.uint64pow10", Rows.laid_internal_strconv_uint64pow10), ("unicode/utf8.acceptRanges", Rows.laid_unicode_utf8_acceptRanges), ("strconv.ErrRange", Rows.laid_strconv_ErrRange), ("strconv.ErrSyntax", Rows.laid_strconv_ErrSyntax), ("unicode/utf8.first", Rows.laid_unicode_utf8_first)]
theorem frame_of {W : World} (h : laidMetH Tryz.prog frameList W) : Tab10 W :=
  tab10_of (laidMet.tail (laidMet.tail (show laidMet Tryz.prog frameList W from h)))

/-- the cells of an array of integers -/
def litV : DataW Unit → List Value
  | .agg ds => ds.map fun
    | .lit (.int k z) => .int k z
    | _ => .bool false
  | _ => []
/-- A world that meets the condition: the settled one, the variables' cells laid, the errors' blocks behind. -/
noncomputable def frameWorld (os : Os) : World :=
  let w0 := World.holding Tryz.prog os ⟨#[], #[], []⟩
  let put (h : Array Obj) (g : Nat) (cs : Array Value) : Array Obj := h.modify g fun
    | .cells _ t frozen => .cells cs t frozen
    | o => o
  let h1 := put w0.heap 3 (Lib.firstTab.map fun z => Value.int .u8 z).toArray
  let h2 := put h1 4 ((List.range 16).flatMap fun i => [Value.int .u8 (Lib.accLo i), Value.int .u8 (Lib.accHi i)]).toArray
  let h3 := put h2 8 (litV Rows.laid_math_bits_deBruijn32tab).toArray
  let h4 := put h3 9 (litV Rows.laid_math_bits_deBruijn64tab).toArray
  let h5 := put h4 7 (litV Rows.laid_internal_strconv_uint64pow10).toArray
  let n := h5.size
  let h6 := h5.push (.cells #[.string ⟨#[118, 97, 108, 117, 101, 32, 111, 117, 116, 32, 111, 102, 32, 114, 97, 110, 103, 101]⟩] 376)
  let h7 := h6.push (.cells #[.string ⟨#[105, 110, 118, 97, 108, 105, 100, 32, 115, 121, 110, 116, 97, 120]⟩] 376)
  let h8 := put h7 6 #[.iface 374 (.pointer (some ⟨n, 0, none⟩))]
  let h9 := put h8 5 #[.iface 374 (.pointer (some ⟨n + 1, 0, none⟩))]
  { w0 with heap := h9 }
set_option maxRecDepth 100000 in
theorem frame_met (os : Os) (args : Array Value) : laidMetH Tryz.prog frameList ((frameWorld os).forCall (fun _ _ => 0) ⟨#[], args, []⟩).memory := by
  unfold frameList
  rw [acc_eq, first_eq]
  exact (LaidIn.of_run (l := [("math/bits.deBruijn32tab", Rows.laid_math_bits_deBruijn32tab), ("math/bits.deBruijn64tab", Rows.laid_math_bits_deBruijn64tab), ("internal/strconv.uint64pow10", Rows.laid_internal_strconv_uint64pow10), ("unicode/utf8.acceptRanges", Lib.acceptData), ("strconv.ErrRange", Rows.laid_strconv_ErrRange), ("strconv.ErrSyntax", Rows.laid_strconv_ErrSyntax), ("unicode/utf8.first", Lib.firstData)]) (List.range 40) 8 (by kernel_rfl) (by kernel_rfl) (by kernel_rfl) (by kernel_rfl)).met
end laidW
end Go.Proofs.YtalklmeejdmifaaGreatDoor
/-
  WHAT THE ROW's LIST of the laws of tokens GIVES A WALK: as LaidW, and lex.words; a world that meets it.
-/
namespace Go.Proofs.YtalklmeejdmifaaGreatDoor
open Go.ChangeShapes Go.WideShapes Go.RowKit

namespace laidW
abbrev lexList : List (String × DataW Unit) := [("math/bits.deBruijn32tab", Rows.laid_math_bits_deBruijn32tab), ("math/bits.deBruijn64tab", Rows.laid_math_bits_deBruijn64tab), ("internal/strconv.uint64pow10", Rows.laid_internal_strconv_uint64pow10), ("unicode/utf8.acceptRanges", Rows.laid_unicode_utf8_acceptRanges), ("strconv.ErrRange", Rows.laid_strconv_ErrRange), ("strconv.ErrSyntax", Rows.laid_strconv_ErrSyntax), ("amanuensis/lex.words", Rows.laid_amanuensis_lex_words), ("unicode/utf8.first", Rows.laid_unicode_utf8_first)]
theorem t8_of {l : List (String × DataW Unit)} {W : World} (h : laidMet Tryz.prog l W) (h1 : ("unicode/utf8.acceptRanges", Rows.laid_unicode_utf8_acceptRanges) ∈ l) (h2 : ("unicode/utf8.first", Rows.laid_unicode_utf8_first) ∈ l) : T8 W := by
  rw [acc_eq] at h1
  rw [first_eq] at h2
  exact utf8Tabs_of_reads (ρ := Tryz.lays197_ren) { Tryz.lays197 with } ⟨by kernel_rfl, by kernel_rfl, by kernel_rfl, by kernel_rfl, by kernel_rfl, by kernel_rfl, by kernel_rfl⟩ (Lib.laidMet.reads h h2) (Lib.laidMet.reads h h1)
theorem gW : Tryz.prog.globalNamed "amanuensis/lex.words" = some 1 := by kernel_rfl
/-- the cells of an array of strings that reads as these -/
theorem cells_of_strs {H : Type} {enc : TypeId × Value → H} {P : Program} {w : World} {base : Nat} {sp : Nat → Bool} {held : Bool} {fuel : Nat} {t e : TypeId} {n : Nat} {cs : List Value} {zs : List Bs} {p : List MemPlace}
    (ht : P.underlying t = some (.array n e)) (he : P.underlying e = some .string) (hce : P.cellsOf e = 1) (hct : P.cellsOf t = n)
    (h : DataW.trod enc P w base sp held fuel t cs = some (.agg (zs.map fun z => .lit (.string z)), p)) : cs = txtV zs := by
  cases fuel with
  | zero => simp [DataW.trod] at h
  | succ fuel =>
    simp only [DataW.trod, ht, hce, hct, Nat.mul_one] at h
    split at h
    · rename_i hl
      obtain ⟨xs, hm, hx⟩ := Option.map_eq_some_iff.1 h
      have hxs : xs.map (·.1) = zs.map fun z => (DataW.lit (.string z) : DataW H) := by
        have := congrArg Prod.fst hx
        simpa using this
      have hxl : xs.length = n := by simpa using Lib.mapM_length hm
      have hzl : zs.length = n := by
        have := congrArg List.length hxs
        simp at this
        omega
      apply List.ext_getElem?
      intro i
      by_cases hi : i < n
      · obtain ⟨b, hb, hf⟩ := Lib.mapM_at hm i i (by simp [hi])
        obtain ⟨z, hc, rfl, _⟩ := DataW.trod_string he hf
        have h1 : cs[i]? = some (.string z) := by
          have := congrArg (·[0]?) hc
          simpa [List.getElem?_take, List.getElem?_drop] using this
        have h2 : (xs.map (·.1))[i]? = some (DataW.lit (.string z.data.toList) : DataW H) := by simp [hb]
        rw [hxs] at h2
        simp only [List.getElem?_map, Option.map_eq_some_iff, DataW.lit.injEq, Lit.string.injEq] at h2
        obtain ⟨z', hz', h3⟩ := h2
        rw [h1]
        simp only [txtV, List.getElem?_map, hz', Option.map_some, h3, strV]
      · rw [List.getElem?_eq_none (by omega), List.getElem?_eq_none (by rw [txtV_len]; omega)]
    · cases h
theorem words_eq : (Rows.laid_amanuensis_lex_words : DataW Unit) = .agg (Lx.words.map fun z => .lit (.string z)) := by kernel_rfl
theorem words_of {l : List (String × DataW Unit)} {W : World} (h : laidMet Tryz.prog l W) (h1 : ("amanuensis/lex.words", Rows.laid_amanuensis_lex_words) ∈ l) : WordsIs W := by
  obtain ⟨g, t, cs, fuel, p, e1, e2, e3, e4⟩ := Lib.laidMet.reads h h1
  obtain rfl := Option.some.inj (gW.symm.trans e1)
  have e5 : (Tryz.prog.globals[1]?).map (·.type) = some 304 := by kernel_rfl
  obtain rfl := Option.some.inj (e5.symm.trans e2)
  rw [words_eq] at e4
  have hc := cells_of_strs (n := 12) Tryz.underlying304 Tryz.underlying9 (by kernel_rfl) (by kernel_rfl) e4
  have hcell : ∀ i, W.cell? ⟨1, i, none⟩ = (txtV Lx.words)[i]? := fun i => by
    rw [World.var?_cell gW e3 i, ← hc]; simp
  refine ⟨by kernel_rfl, fun _ => ⟨_, 0, rfl, ?_, fun i u hu => by rw [Nat.zero_add, hcell]; exact hu⟩⟩
  exact World.block_lt_of_cell? (a := ⟨1, 0, none⟩) W (hcell 0)
theorem lex_of {W : World} (h : laidMetH Tryz.prog lexList W) : T8 W ∧ WordsIs W :=
  have h' : laidMet Tryz.prog lexList W := h
  ⟨t8_of h' (by simp [lexList]) (by simp [lexList]), words_of h' (by simp [lexList])⟩

/-- A world that meets the condition. -/
noncomputable def lexWorld (os : Os) : World :=
  let w0 := frameWorld os
  { w0 with heap := w0.heap.modify 1 fun
      | .cells _ t frozen => .cells (txtV Lx.words).toArray t frozen
      | o => o }
set_option maxRecDepth 100000 in
theorem lex_met (os : Os) (args : Array Value) : laidMetH Tryz.prog lexList ((lexWorld os).forCall (fun _ _ => 0) ⟨#[], args, []⟩).memory := by
  unfold lexList
  rw [acc_eq, first_eq]
  exact (LaidIn.of_run (l := [("math/bits.deBruijn32tab", Rows.laid_math_bits_deBruijn32tab), ("math/bits.deBruijn64tab", Rows.laid_math_bits_deBruijn64tab), ("internal/strconv.uint64pow10", Rows.laid_internal_strconv_uint64pow10), ("unicode/utf8.acceptRanges", Lib.acceptData), ("strconv.ErrRange", Rows.laid_strconv_ErrRange), ("strconv.ErrSyntax", Rows.laid_strconv_ErrSyntax), ("amanuensis/lex.words", Rows.laid_amanuensis_lex_words), ("unicode/utf8.first", Lib.firstData)]) (List.range 40) 8 (by kernel_rfl) (by kernel_rfl) (by kernel_rfl) (by kernel_rfl)).met
end laidW
end Go.Proofs.YtalklmeejdmifaaGreatDoor
