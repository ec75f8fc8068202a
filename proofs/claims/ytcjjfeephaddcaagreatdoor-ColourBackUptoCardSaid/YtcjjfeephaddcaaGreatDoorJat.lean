/-
  JOINED of the texts TY LT UK UA UC RRune UD UB UE UF UG UH LQ VA ErrV EH EN EK EL
-/
import Derived.Test.YtcjjfeephaddcaaGreatDoorJas
set_option linter.all false
namespace Go.Proofs.YtcjjfeephaddcaaGreatDoor
def Lx.Chain : Nat → Nat → List (Nat × Nat × Nat) → Prop
 | a, e, [] => a = e
 | a, e, t :: R => t.2.1 = a ∧ 1 ≤ t.2.2 ∧ 1 ≤ t.1 ∧ t.1 ≤ 8 ∧ Lx.Chain (a + t.2.2) e R
theorem Lx.chain_tok : ∀ (n a : Nat) (l : List UInt8), l.length ≤ n → Lx.Chain a (a + l.length) (Lx.tokR a l)
 | 0, a, l, h => by
  obtain rfl : l = [] := List.eq_nil_of_length_eq_zero (by omega)
  rw [Lx.tokR_nil]; rfl
 | n + 1, a, l, h => by
  by_cases hne : l = []
  ·subst hne; rw [Lx.tokR_nil]; rfl
  ·have h1 := Lx.one_le l hne
   rw [Lx.tokR_cons a hne]
   refine ⟨rfl, h1.1, h1.2.2.1, h1.2.2.2, ?_⟩
   have := Lx.chain_tok n (a + (Lx.oneM l).2) (l.drop (Lx.oneM l).2) (by rw [List.length_drop]; omega)
   rw [List.length_drop] at this
   dsimp only
   rwa [show a + (Lx.oneM l).2 + (l.length - (Lx.oneM l).2) = a + l.length by omega] at this
theorem Lx.chain_head {a e : Nat} {R : List (Nat × Nat × Nat)} (h : Lx.Chain a e R) : a = (R[0]?.map (·.2.1)).getD e := by
 cases R with
 | nil => exact h
 | cons t R => simp [h.1]
theorem Lx.chain_drop {e : Nat} : ∀ (i a : Nat) (R : List (Nat × Nat × Nat)), Lx.Chain a e R → Lx.Chain ((R[i]?.map (·.2.1)).getD e) e (R.drop i)
 | 0, a, R, h => by rw [List.drop_zero, ← Lx.chain_head h]; exact h
 | i + 1, a, [], h => by simp; rfl
 | i + 1, a, t :: R, h => by simpa using Lx.chain_drop i _ R h.2.2.2.2
theorem Lx.chain_le {e : Nat} : ∀ (a : Nat) (R : List (Nat × Nat × Nat)), Lx.Chain a e R → a ≤ e
 | a, [], h => by have : a = e := h; omega
 | a, t :: R, h => by have := Lx.chain_le _ R h.2.2.2.2; omega
theorem Lx.chain_side {s : List UInt8} {T : List (Nat × Nat × Nat)} (h : Lx.Chain 0 s.length T) (hT : T.length ≤ 400000000) : Tr.Side s T := by
 have habs : ∀ i, Lx.Chain (Tr.absP s T i) s.length (T.drop i) := fun i => Lx.chain_drop i 0 T h
 have hk : ∀ k (hk : k < T.length), T[k].2.1 = Tr.absP s T k ∧ 1 ≤ T[k].2.2 ∧ 1 ≤ T[k].1 ∧ T[k].1 ≤ 8 ∧ Lx.Chain (Tr.absP s T k + T[k].2.2) s.length (T.drop (k + 1)) := fun k hk => by
  have := habs k
  rw [List.drop_eq_getElem_cons hk] at this
  exact this
 have htile : ∀ k (h : k < T.length), T[k].2.1 + T[k].2.2 = Tr.absP s T (k + 1) := fun k hlt => by
  obtain ⟨h1, _, _, _, h5⟩ := hk k hlt
  rw [h1, Lx.chain_head h5]
  unfold Tr.absP
  rw [List.getElem?_drop, Nat.add_zero]
 refine ⟨⟨fun t ht => ?_, fun i j hij => ?_⟩, htile, ?_, hT⟩
 ·obtain ⟨k, hlt, rfl⟩ := List.getElem_of_mem ht
  obtain ⟨h1, h2, h3, h4, h5⟩ := hk k hlt
  have := Lx.chain_le _ _ h5
  omega
 ·induction j with
  | zero =>
   obtain rfl : i = 0 := by omega
   exact Nat.le_refl _
  | succ j ih =>
   by_cases e : i = j + 1
   ·subst e; exact Nat.le_refl _
   ·have h1 := ih (by omega)
    by_cases hj : j < T.length
    ·have h2 := htile j hj
     have h3 := (hk j hj).1
     omega
    ·have h2 := Tr.abs_end s T j (by omega)
     have h3 := Tr.abs_end s T (j + 1) (by omega)
     omega
 ·have := Lx.chain_head (habs 0)
  rw [List.drop_zero] at this
  have h0 := Lx.chain_head h
  omega
def Plainly (s : List UInt8) (T : List (Nat × Nat × Nat)) : Prop := ∀ t ∈ T, (t.1 = 7 → Tr.subT s t ≠ Tr.sTrue ∧ Tr.subT s t ≠ Tr.sFalse) ∧ (t.1 = 4 → Tr.subT s t ≠ [63])
theorem Lx.sign_le (l : List UInt8) : Lx.signM l ≤ 2 := by
 unfold Lx.signM
 split
 ·omega
 ·split
  ·omega
  ·split <;> omega
theorem Lx.one_plain (l : List UInt8) : ((Lx.oneM l).1 = 7 → (Lx.oneM l).2 ≤ 2) ∧ ((Lx.oneM l).1 = 4 → l.take (Lx.oneM l).2 ∈ Lx.words) := by
 unfold Lx.oneM
 split
 ·exact ⟨by simp, by simp⟩
 split
 ·exact ⟨by simp, by simp⟩
 split
 ·split <;> exact ⟨by simp, by simp⟩
 split
 ·refine ⟨?_, ?_⟩
  ·dsimp only; split <;> intro h <;> omega
  ·dsimp only
   split
   ·rename_i h
    intro _
    unfold Lx.wordM at h
    simpa using h
   ·intro h; omega
 split
 ·refine ⟨?_, ?_⟩ <;> (dsimp only; split <;> intro h <;> omega)
 split
 ·refine ⟨?_, ?_⟩ <;> (dsimp only; split <;> intro h <;> omega)
 split
 ·exact ⟨fun _ => Lx.sign_le l, by simp⟩
 ·exact ⟨by simp, by simp⟩
theorem Lx.plainly : ∀ (n a : Nat) (s : List UInt8), s.length - a ≤ n → Plainly s (Lx.tokR a (s.drop a))
 | 0, a, s, h => by
  have e : s.drop a = [] := List.drop_eq_nil_of_le (by omega)
  rw [e, Lx.tokR_nil]
  intro t ht; simp at ht
 | n + 1, a, s, h => by
  by_cases hne : s.drop a = []
  ·rw [hne, Lx.tokR_nil]
   intro t ht; simp at ht
  ·have h1 := Lx.one_le _ hne
   rw [Lx.tokR_cons a hne, List.drop_drop]
   rw [List.length_drop] at h1
   have ih := Lx.plainly n (a + (Lx.oneM (s.drop a)).2) s (by omega)
   intro t ht
   rcases List.mem_cons.1 ht with rfl | ht
   ·obtain ⟨p7, p4⟩ := Lx.one_plain (s.drop a)
    unfold Tr.subT
    dsimp only
    refine ⟨fun h7 => ?_, fun h4 e => ?_⟩
    ·have hl : ((s.drop a).take (Lx.oneM (s.drop a)).2).length ≤ 2 := by
      rw [List.length_take]
      have := p7 h7
      omega
     refine ⟨fun e => ?_, fun e => ?_⟩ <;> (rw [e] at hl; simp [Tr.sTrue, Tr.sFalse] at hl)
    ·have := p4 h4
     rw [e] at this
     revert this
     decide
   ·exact ih t ht
theorem Lx.tok_side (s : List UInt8) (hs : s.length ≤ 400000000) (hT : (Lx.tokR 0 s).length ≤ s.length) : Tr.Side s (Lx.tokR 0 s) ∧ Plainly s (Lx.tokR 0 s) := by
 have h1 := Lx.chain_tok s.length 0 s (Nat.le_refl _)
 rw [Nat.zero_add] at h1
 have h2 := Lx.plainly s.length 0 s (by omega)
 rw [List.drop_zero] at h2
 exact ⟨Lx.chain_side h1 (by omega), h2⟩
end Go.Proofs.YtcjjfeephaddcaaGreatDoor
namespace Go.Proofs.YtcjjfeephaddcaaGreatDoor
open Go.RowKit
theorem Rd.tk {w : World} {B : Nat} {A : Option Addr} {l : List Tk} {k : Nat} (h : Rd w B 3 A l.length (tksC l)) (hk : k < l.length) :
  ∃ b o, A = some ⟨b, o, none⟩ ∧ b < B ∧ w.cell? ⟨b, o + k * 3, none⟩ = some (.int .i64 l[k].1) ∧ w.cell? ⟨b, o + k * 3 + 1, none⟩ = some (.int .i64 l[k].2.1) ∧ w.cell? ⟨b, o + k * 3 + 2, none⟩ = some (.int .i64 l[k].2.2) := by
 obtain ⟨b, o, e, hb, hc⟩ := h.2 (by omega)
 refine ⟨b, o, e, hb, ?_, ?_, ?_⟩
 ·have := hc (k * 3 + 0) _ (tksC_get l k 0 (by omega) hk); simpa [Nat.add_assoc] using this
 ·have := hc (k * 3 + 1) _ (tksC_get l k 1 (by omega) hk); simpa [Nat.add_assoc] using this
 ·have := hc (k * 3 + 2) _ (tksC_get l k 2 (by omega) hk); simpa [Nat.add_assoc] using this
theorem Lx.tokR_len : ∀ (n a : Nat) (l : List UInt8), l.length ≤ n → (Lx.tokR a l).length ≤ l.length
 | 0, a, l, h => by
  obtain rfl : l = [] := List.eq_nil_of_length_eq_zero (by omega)
  rw [Lx.tokR_nil]; exact Nat.le_refl _
 | n + 1, a, l, h => by
  by_cases hne : l = []
  ·subst hne; rw [Lx.tokR_nil]; exact Nat.le_refl _
  ·have h1 := Lx.one_le l hne
   rw [Lx.tokR_cons a hne, List.length_cons]
   have := Lx.tokR_len n (a + (Lx.oneM l).2) (l.drop (Lx.oneM l).2) (by rw [List.length_drop]; omega)
   rw [List.length_drop] at this
   omega
structure TreeOf (w : World) (F : Nat → Prop) (gt : Nat) (s : Bs) (T : List Tk) (ks : List Tr.Kd) (ts : List Tr.PT) : Prop where
 ex : ∃ d A c, TreeIs w F gt d A c T ks ts ∧ DocAt w d s T ∧ F d ∧ RowF w F A (tksC T) ∧ T.length ≤ c ∧ d ≠ gt
 at_ : F gt
theorem Aft.toBelow {w w' : World} {g : Nat} {B : Nat} (h : Aft (Old w) g w w') (hB : B ≤ w.heap.size) (hg : B ≤ g) : Below B w w' :=
 ⟨h.calm.os, h.calm.tape, h.calm.output, h.size, fun x hx => h.oth x (Nat.lt_of_lt_of_le hx hB) (by omega)⟩
set_option maxHeartbeats 4000000 in
set_option maxRecDepth 100000 in
theorem tnew_walk (s : Bs) (m : Int) (w : World) (hM : MaxL w m) (hT8 : T8 w) (hW : WordsIs w) (hl : s.length ≤ 1048576) :
  Calls Tryz.prog 21 #[.string ⟨s.toArray⟩] w fun e w' => ∃ gt, e = .returned (.pointer (some ⟨gt, 0, none⟩)) ∧ TreeOf w' (fun x => w.heap.size ≤ x) gt s (Lx.tokR 0 s) (Tr.kidsP s (Lx.tokR 0 s) ((Lx.tokR 0 s).length + 1) 0).1 (Tr.tailP s (Lx.tokR 0 s) (Tr.kidsP s (Lx.tokR 0 s) ((Lx.tokR 0 s).length + 1) 0).2) ∧ Below w.heap.size w w' := by
 have hnew := lnew_walk s m w hM hT8 hW (by omega)
 have hTl := Lx.tokR_len s.length 0 s (Nat.le_refl _)
 obtain ⟨hS, -⟩ := Lx.tok_side s (by omega) hTl
 generalize Lx.tokR 0 s = T at *
 have X : Txts s T := ⟨hS.good, by omega, by omega⟩
 have HTl : Hid (T.length ≤ 1048576) := by show _ ≤ _; omega
 clear hS hTl hM hT8 hW hl
 go_enter Tryz.func21, Tryz.ntmps21
 go_wp2_with fail
 refine hnew.mono ?_
 clear hnew
 rintro e w1 ⟨d, rfl, hd, hD, hb1⟩
 have hd2 : Below w1.heap.size w1 (w1.alloc (.cells #[.pointer (some ⟨d, 0, none⟩), .slice none 0 0, .slice none 0 0, .slice none 0 0] 131)) := (Below.refl _ _).alloc (Nat.le_refl _) _
 have hB : Blk (w1.alloc (.cells #[.pointer (some ⟨d, 0, none⟩), .slice none 0 0, .slice none 0 0, .slice none 0 0] 131)) w1.heap.size 131 #[.pointer (some ⟨d, 0, none⟩), .slice none 0 0, .slice none 0 0, .slice none 0 0] := Blk.new _ _ _
 have hD2 := hD.below hd2
 obtain ⟨gt, hgt⟩ : ∃ g, g = w1.heap.size := ⟨_, rfl⟩
 rw [← hgt] at hB
 have hdl : d < gt := by obtain ⟨_, _, h, _⟩ := hD; rw [hgt]; exact h.lt
 have Hgt := Lib.hid hgt
 go_upto_region 2 with fail
 rw [← hgt]
 clear hgt
 generalize w1.alloc (.cells #[.pointer (some ⟨d, 0, none⟩), .slice none 0 0, .slice none 0 0, .slice none 0 0] 131) = w2 at *
 have htk := ltokens_walk d s T w2 hD2 (by have := HTl.out; omega)
 have z0 := hB.cell 0
 simp at z0
 go_wp2_with fail
 refine htk.mono ?_
 clear htk
 rintro e w3 ⟨A, rfl, ⟨c0, hown⟩, hd3⟩
 have hB3 := hB.below hd3 hB.lt
 have z1 := hB3.cell 1
 have y1 := hB3.frozen 1
 simp at z1
 have hB4 := hB3.set_ 1 (.slice A T.length T.length)
 simp at hB4
 have hrow : RowF w3 (fun x => w2.heap.size ≤ x) A (tksC T) := (own_row hown fun q hq => (hown.lt q hq).1).2
 have hgl := hB.lt
 go_upto_region 3 with fail
 have hz4 : w3.heap.size ≤ (w3.setCell ⟨gt, 1, none⟩ (.slice A T.length T.length)).heap.size := by simp [World.setCell]
 have hrow4 : RowF (w3.setCell ⟨gt, 1, none⟩ (.slice A T.length T.length)) (fun x => w2.heap.size ≤ x) A (tksC T) := hrow.keep hz4 fun x hx _ => ⟨Below.heap_setCell _ ⟨gt, 1, none⟩ _ x (by have hx : w2.heap.size ≤ x := hx; show x ≠ gt; omega), hx⟩
 have hb4 : Below gt w1 (w3.setCell ⟨gt, 1, none⟩ (.slice A T.length T.length)) := (((by have := hd2; rwa [← Hgt.out] at this) : Below gt w1 w2).trans (hd3.mono (Nat.le_of_lt hgl))).setCell (p := ⟨gt, 1, none⟩) (Nat.le_refl _) _
 clear z0 z1 y1 hB hB3 hown hrow hd3 hD2 hd2
 generalize w3.setCell ⟨gt, 1, none⟩ (.slice A T.length T.length) = w4 at *
 have hD4 := hD.below (by have := hb4; rwa [Hgt.out] at this)
 obtain ⟨A1, c1, hB1, _⟩ := id hD4
 have hrd := read_nil X hB4 hB1 (hrow4.keep (F' := fun x => x ≠ gt) (Nat.le_refl _) fun x hx _ => ⟨rfl, (by have hx : w2.heap.size ≤ x := hx; show x ≠ gt; omega)⟩) (Nat.le_refl _)
 go_wp2_with fail
 refine hrd.mono ?_
 clear hrd
 rintro e w5 ⟨n, rfl, hA, hTr⟩
 go_wp2_with fail
 go_ret
 have hbz := hb1.size
 have hgt1 := Hgt.out
 have hz2 := hb4.size
 have hb5 : Below gt w1 w5 := hb4.trans (hA.toBelow (by omega) (Nat.le_refl _))
 have hD5 := hD.below (by rwa [hgt1] at hb5)
 refine ⟨gt, rfl, ⟨⟨d, A, T.length, ?_, hD5, hd, ?_, Nat.le_refl _, by omega⟩, by show _ ≤ _; omega⟩, hb1.trans (hb5.mono (by omega))⟩
 ·obtain ⟨Av, cv, At, ct, vs, us, h1, h2, h3, h4, h5, h6, h7⟩ := hTr.ex
  exact ⟨Av, cv, At, ct, vs, us, h1, h2, h3, h4.keep (Nat.le_refl _) (fun x hx _ => ⟨rfl, by have hx : w4.heap.size ≤ x := hx; show _ ≤ _; omega⟩), KdsF.keep (Nat.le_refl _) (fun x hx _ => ⟨rfl, by have hx : w4.heap.size ≤ x := hx; show _ ≤ _; omega⟩) _ _ h5, h6.keep (Nat.le_refl _) (fun x hx _ => ⟨rfl, by have hx : w4.heap.size ≤ x := hx; show _ ≤ _; omega⟩), PtsF.keep (Nat.le_refl _) (fun x hx _ => ⟨rfl, by have hx : w4.heap.size ≤ x := hx; show _ ≤ _; omega⟩) _ _ h7⟩
 ·exact hrow4.keep hA.size fun x hx hl => ⟨hA.oth x hl (by have hx : w2.heap.size ≤ x := hx; omega), by have hx : w2.heap.size ≤ x := hx; show _ ≤ _; omega⟩
end Go.Proofs.YtcjjfeephaddcaaGreatDoor
namespace Go.Proofs.YtcjjfeephaddcaaGreatDoor.Lx
def enc (c : Nat) : List UInt8 := (Utf8.encode c).data.toList
def aloneB (l : List UInt8) (k : Nat) : Bool := !l.isEmpty && decide ((oneM l).1 = k) && decide ((oneM l).2 = l.length)
end Go.Proofs.YtcjjfeephaddcaaGreatDoor.Lx
namespace Go.Proofs.YtcjjfeephaddcaaGreatDoor
open Go.RowKit
set_option maxHeartbeats 1000000 in
set_option maxRecDepth 100000 in
theorem alone_walk (s : Bs) (k : Nat) (m : Int) (w : World) (hM : MaxL w m) (hT : T8 w) (hW : WordsIs w) (hl : s.length ≤ 8388608) :
  Calls Tryz.prog 162 #[.string ⟨s.toArray⟩, .int .i64 k] w fun e w' => e = .returned (.bool (Lx.aloneB s k)) ∧ Below w.heap.size w w' := by
 cases s with
 | nil =>
  go_enter Tryz.func162, Tryz.ntmps162
  go_wp2_with fail
  go_ret
  exact ⟨rfl, Below.refl _ _⟩
 | cons a t =>
  have hne : ((a :: t : Bs) == []) = false := rfl
  have hsc := scan_walk (a :: t) m w hM hT hW (by simp) (by omega)
  have hB : Hid (Lx.aloneB (a :: t) k = (decide ((Lx.oneM (a :: t)).1 = k) && decide ((Lx.oneM (a :: t)).2 = (a :: t).length))) := by
   show _ = _; simp [Lx.aloneB]
  generalize Lx.aloneB (a :: t) k = B at *
  have hlen0 : (((⟨(a :: t).toArray⟩ : ByteArray).size : Nat) : Int) = (((a :: t).length : Nat) : Int) := by rw [mk_size]
  generalize hL : (a :: t) = L at *
  generalize Lx.oneM L = X at *
  obtain ⟨x, n⟩ := X
  simp only at hB
  have hsc : Calls Tryz.prog 148 #[.string ⟨L.toArray⟩] w fun e w' => e = .returned (.tuple #[.int .i64 x, .int .i64 n]) ∧ Below w.heap.size w w' := hsc
  have hLe : (L == []) = false := hne
  have HL := Lib.hid hL
  clear hL hne hlen0
  by_cases h1 : x = k
  ·by_cases h2 : n = L.length
   ·have hR : Hid (B = true) := by show _ = _; rw [hB.out, decide_eq_true h1, decide_eq_true h2]; rfl
    have e1 : ((x : Int) == (k : Int)) = true := by simp [h1]
    have e2 : ((n : Int) == (L.length : Int)) = true := by simp [h2]
    clear h1 h2 hB
    go_enter Tryz.func162, Tryz.ntmps162
    go_wp2_with fail
    refine hsc.mono ?_
    rintro e w2 ⟨rfl, hb2⟩
    go_wp2_with fail
    go_ret
    exact ⟨by rw [hR.out]; rfl, hb2⟩
   ·have hR : Hid (B = false) := by show _ = _; rw [hB.out, decide_eq_true h1, decide_eq_false h2]; rfl
    have e1 : ((x : Int) == (k : Int)) = true := by simp [h1]
    have e2 : ((n : Int) == (L.length : Int)) = false := by simp; omega
    clear h1 h2 hB
    go_enter Tryz.func162, Tryz.ntmps162
    go_wp2_with fail
    refine hsc.mono ?_
    rintro e w2 ⟨rfl, hb2⟩
    go_wp2_with fail
    go_ret
    exact ⟨by rw [hR.out]; rfl, hb2⟩
  ·have hR : Hid (B = false) := by show _ = _; rw [hB.out, decide_eq_false h1]; rfl
   have e1 : ((x : Int) == (k : Int)) = false := by simp; omega
   clear h1 hB
   go_enter Tryz.func162, Tryz.ntmps162
   go_wp2_with fail
   refine hsc.mono ?_
   rintro e w2 ⟨rfl, hb2⟩
   go_wp2_with fail
   go_ret
   exact ⟨by rw [hR.out]; rfl, hb2⟩
def nameB (s : Bs) : Bool := decide (s.length ≤ 40) && Lx.aloneB s 3
set_option maxHeartbeats 1000000 in
set_option maxRecDepth 100000 in
theorem lname_walk (s : Bs) (m : Int) (w : World) (hM : MaxL w m) (hT : T8 w) (hW : WordsIs w) (hl : s.length ≤ 8388608) :
  Calls Tryz.prog 117 #[.string ⟨s.toArray⟩] w fun e w' => e = .returned (.bool (nameB s)) ∧ Below w.heap.size w w' := by
 have ha : Calls Tryz.prog 162 #[.string ⟨s.toArray⟩, .int .i64 3] w fun e w' => e = .returned (.bool (Lx.aloneB s 3)) ∧ Below w.heap.size w w' := alone_walk s 3 m w hM hT hW hl
 have hR : Hid (nameB s = (decide (s.length ≤ 40) && Lx.aloneB s 3)) := rfl
 generalize nameB s = B at *
 generalize Lx.aloneB s 3 = Q at *
 by_cases h : s.length ≤ 40
 ·have h1 : (s.length : Int) ≤ 40 := by omega
  have hR2 : Hid (B = Q) := by show _ = _; rw [hR.out, decide_eq_true h]; rfl
  clear h hR
  go_enter Tryz.func117, Tryz.ntmps117
  go_wp2_with fail
  refine ha.mono ?_
  rintro e w2 ⟨rfl, hb2⟩
  go_wp2_with fail
  go_ret
  exact ⟨by rw [hR2.out]; rfl, hb2⟩
 ·have h1 : ¬ (s.length : Int) ≤ 40 := by omega
  have hR2 : Hid (B = false) := by show _ = _; rw [hR.out, decide_eq_false h]; rfl
  clear h hR
  go_enter Tryz.func117, Tryz.ntmps117
  go_wp2_with fail
  go_ret
  exact ⟨by rw [hR2.out]; rfl, Below.refl _ _⟩
end Go.Proofs.YtcjjfeephaddcaaGreatDoor
namespace Go.Proofs.YtcjjfeephaddcaaGreatDoor
def errV : Nat → Value
 | 0 => .nilIface
 | k => .iface 29 (.int .i64 k)
end Go.Proofs.YtcjjfeephaddcaaGreatDoor
namespace Go.Proofs.YtcjjfeephaddcaaGreatDoor
open Go.RowKit
def Sc.namesF : List Fl → List Fl → Nat
 | _, [] => 0
 | ahead, f :: l => if nameB f.1 = false then 4 else if (ahead.any fun g => g.1 == f.1) = true then 5 else Sc.namesF (ahead ++ [f]) l
def Sc.faultM (fs : List Fl) : Nat := if 16 < fs.length then 12 else if (fs.any fun f => decide (20000 < f.2.length)) = true then 12 else Sc.namesF [] fs
theorem sc_chk1 {w : World} {x : Fl} {bx : Nat} {n : Bs} (hb : w.cell? ⟨bx, 0, none⟩ = some (.string ⟨n.toArray⟩)) :
  Calls Tryz.prog 119 #[.agg #[.string ⟨x.1.toArray⟩, .string ⟨x.2.toArray⟩], .pointer (some ⟨bx, 0, none⟩)] w (TestE (x.1 == n) w) := by
 have hd : Below w.heap.size w (w.alloc (.cells #[.string ⟨x.1.toArray⟩, .string ⟨x.2.toArray⟩] 66)) := (Below.refl _ _).alloc (Nat.le_refl _) _
 have hn := Blk.new w 66 #[.string ⟨x.1.toArray⟩, .string ⟨x.2.toArray⟩]
 have hb1 := (hd.cell (p := ⟨bx, 0, none⟩) (World.block_lt_of_cell? w _ hb)).trans hb
 obtain ⟨r, hr⟩ : ∃ r, r = w.heap.size := ⟨_, rfl⟩
 rw [← hr] at hn
 clear hb
 go_enter Tryz.func119, Tryz.ntmps119
 go_upto_region 1 with fail
 rw [← hr]
 clear hr
 generalize w.alloc (.cells #[.string ⟨x.1.toArray⟩, .string ⟨x.2.toArray⟩] 66) = w1 at *
 have n0 := hn.cell 0
 simp at n0
 clear hn
 go_wp2_with fail
 go_ret
 exact ⟨rfl, hd⟩
def ChkE (n : Nat) (w : World) (e : Ending) (w' : World) : Prop := e = .returned (errV n) ∧ Below w.heap.size w w'
set_option maxHeartbeats 8000000 in
set_option maxRecDepth 100000 in
theorem sc_check {w : World} {A : Option Addr} {c : Nat} {fs : List Fl} {m : Int} (hr : FlR w A fs) (hM : MaxL w m) (hT : T8 w) (hW : WordsIs w) (hn : ∀ f ∈ fs, f.1.length ≤ 8388608) (hcap : fs.length ≤ c) :
  Calls Tryz.prog 72 #[.slice A fs.length c] w (ChkE (Sc.faultM fs) w) := by
 by_cases h16 : 16 < fs.length
 ·have HR : Hid (Sc.faultM fs = 12) := by show _ = _; unfold Sc.faultM; rw [if_pos h16]
  have j16 : (16 : Int) < (fs.length : Int) := by omega
  clear hr hn hcap h16
  generalize Sc.faultM fs = R at *
  go_enter Tryz.func72, Tryz.ntmps72
  go_wp2_with fail
  go_ret
  exact ⟨by rw [HR.out]; rfl, Below.refl _ _⟩
 have HR : Hid (Sc.faultM fs = if (fs.any fun f => decide (20000 < f.2.length)) = true then 12 else Sc.namesF [] fs) := by show _ = _; unfold Sc.faultM; rw [if_neg h16]
 generalize Sc.faultM fs = R at *
 have j16 : ¬ (16 : Int) < (fs.length : Int) := by omega
 have H16 : Hid (fs.length ≤ 16) := by show _ ≤ _; omega
 have Hn := Lib.hid hn
 have Hcap := Lib.hid hcap
 clear h16 hn hcap
 go_enter Tryz.func72, Tryz.ntmps72
 go_wp2_with fail
 go_loopg [13] fs.length (fun mm v wr => ∃ i : Nat, v = .int .i64 (i : Int) ∧ i ≤ fs.length ∧ fs.length - i ≤ mm ∧ Hid (∀ j (hj : j < fs.length), j < i → ¬ 20000 < fs[j].2.length) ∧ Below w.heap.size w wr)
 case atStart => exact ⟨0, rfl, Nat.zero_le _, Nat.le_refl _, fun j _ h => absurd h (by omega), Below.refl _ _⟩
 case round =>
  obtain ⟨i, rfl, hi, hm, HB, hd⟩ := hrel
  by_cases hlt : i < fs.length
  ·have ii0 : (0 : Int) ≤ (i : Int) := by omega
   have ii1 : (i : Int) < (fs.length : Int) := by omega
   obtain ⟨br, o, rfl, hbl, hc0, hc1⟩ := hr.at_ hlt
   have q0 := (hd.cell (p := ⟨br, o + i * 2, none⟩) hbl).trans hc0
   have q1 := (hd.cell (p := ⟨br, o + i * 2 + 1, none⟩) hbl).trans hc1
   have c1 : IntKind.i64.wrap ((i : Int) + 1) = (i : Int) + 1 := IntWalk.i64_in _ (by have := H16.out; omega)
   have HE : Hid (20000 < fs[i].2.length → R = 12) := fun h => by
    rw [HR.out, if_pos]
    exact List.any_eq_true.2 ⟨fs[i], List.getElem_mem hlt, by simpa using h⟩
   have HN : Hid (¬ 20000 < fs[i].2.length → ∀ j (hj : j < fs.length), j < i + 1 → ¬ 20000 < fs[j].2.length) := fun h j hj hji => by
    rcases Nat.lt_or_ge j i with h' | h'
    ·exact HB.out j hj h'
    ·obtain rfl : j = i := by omega
     exact h
   have Hlt := Lib.hid hlt
   have Hm := Lib.hid hm
   have hd1 : Below wr.heap.size wr (wr.alloc (.cells #[.string ⟨fs[i].1.toArray⟩, .string ⟨fs[i].2.toArray⟩] 66)) := (Below.refl _ _).alloc (Nat.le_refl _) _
   have hb1 := Blk.new wr 66 #[.string ⟨fs[i].1.toArray⟩, .string ⟨fs[i].2.toArray⟩]
   have hd2 := hd.trans (hd1.mono hd.size)
   generalize fs[i] = x at *
   clear hc0 hc1 hbl hlt hm hi HB hd1
   go_upto_region 6 with fail
   obtain ⟨bx, hbx⟩ : ∃ bx, bx = wr.heap.size := ⟨_, rfl⟩
   rw [← hbx] at hb1 ⊢
   clear hbx q0 q1 hd
   generalize wr.alloc (.cells #[.string ⟨x.1.toArray⟩, .string ⟨x.2.toArray⟩] 66) = w2 at *
   have b1 := hb1.cell 1
   simp at b1
   by_cases hx : 20000 < x.2.length
   ·have HR2 := Lib.hid (HE.out hx)
    have hx1 : (20000 : Int) < (x.2.length : Int) := by omega
    clear HE HN hx
    go_wp2_with fail
    go_ret
    exact ⟨by rw [HR2.out]; rfl, hd2⟩
   ·have HN2 := Lib.hid (HN.out hx)
    have hx1 : ¬ (20000 : Int) < (x.2.length : Int) := by omega
    clear HE HN hx
    go_wp2_with fail
    go_roundg (fs.length - (i + 1))
    case rel => exact ⟨i + 1, by go_num, by have := Hlt.out; omega, Nat.le_refl _, HN2, hd2⟩
    case measure => have := Hlt.out; have := Hm.out; omega
  ·obtain rfl : i = fs.length := by omega
   have i1 : ¬ (fs.length : Int) < (fs.length : Int) := by omega
   have i2 : decide (fs.length < fs.length) = false := by simp
   have HR2 : Hid (R = Sc.namesF [] fs) := by
    show _ = _
    rw [HR.out, if_neg]
    intro h
    obtain ⟨x, hx, e⟩ := List.any_eq_true.1 h
    obtain ⟨j, hj, e2⟩ := List.getElem_of_mem hx
    exact HB.out j hj hj (by rw [e2]; simpa using e)
   clear hlt hi hm HB HR
   generalize wr = w1 at *
   go_wp2_with fail
   go_loopg [25] fs.length (fun mm v wr => ∃ i : Nat, v = .int .i64 (i : Int) ∧ i ≤ fs.length ∧ fs.length - i ≤ mm ∧ Hid (Sc.namesF [] fs = Sc.namesF (fs.take i) (fs.drop i)) ∧ Below w.heap.size w wr)
   case atStart => exact ⟨0, rfl, Nat.zero_le _, Nat.le_refl _, rfl, hd⟩
   case round =>
    obtain ⟨i, rfl, hi, hm, HB, hd2⟩ := hrel
    clear hd
    by_cases hlt : i < fs.length
    ·have ii0 : (0 : Int) ≤ (i : Int) := by omega
     have ii1 : (i : Int) < (fs.length : Int) := by omega
     obtain ⟨br, o, rfl, hbl, hc0, hc1⟩ := hr.at_ hlt
     have q0 := (hd2.cell (p := ⟨br, o + i * 2, none⟩) hbl).trans hc0
     have q1 := (hd2.cell (p := ⟨br, o + i * 2 + 1, none⟩) hbl).trans hc1
     have c1 : IntKind.i64.wrap ((i : Int) + 1) = (i : Int) + 1 := IntWalk.i64_in _ (by have := H16.out; omega)
     have hE : Sc.namesF (fs.take i) (fs.drop i) = if nameB fs[i].1 = false then 4 else if ((fs.take i).any fun g => g.1 == fs[i].1) = true then 5 else Sc.namesF (fs.take (i + 1)) (fs.drop (i + 1)) := by
      rw [List.drop_eq_getElem_cons hlt, List.take_succ_eq_append_getElem hlt]
      rfl
     have HE : Hid (R = if nameB fs[i].1 = false then 4 else if ((fs.take i).any fun g => g.1 == fs[i].1) = true then 5 else Sc.namesF (fs.take (i + 1)) (fs.drop (i + 1))) := by show _ = _; rw [HR2.out, HB.out]; exact hE
     have hfr := (hr.below hd2).take i
     have hwl : (fs.take i).length = i := by rw [List.length_take]; omega
     have Hwl := Lib.hid hwl
     have hnl := Hn.out fs[i] (List.getElem_mem hlt)
     have Hlt := Lib.hid hlt
     have Hm := Lib.hid hm
     have hd3 : Below wr.heap.size wr (wr.alloc (.cells #[.string ⟨fs[i].1.toArray⟩, .string ⟨fs[i].2.toArray⟩] 66)) := (Below.refl _ _).alloc (Nat.le_refl _) _
     have hb1 := Blk.new wr 66 #[.string ⟨fs[i].1.toArray⟩, .string ⟨fs[i].2.toArray⟩]
     have hd4 := hd2.trans (hd3.mono hd2.size)
     have hfr4 := hfr.below hd3
     have hcp : (i : Int) ≤ (c : Int) := by have := Hcap.out; omega
     have hcp2 : i ≤ c := by have := Hcap.out; omega
     generalize fs[i] = x at *
     generalize fs.take i = ft at *
     clear hc0 hc1 hbl hlt hm hi HB hd3 hE hfr hwl
     go_upto_region 12 with fail
     obtain ⟨bx, hbx⟩ : ∃ bx, bx = wr.heap.size := ⟨_, rfl⟩
     rw [← hbx] at hb1 ⊢
     clear hbx q0 q1 hd2
     generalize wr.alloc (.cells #[.string ⟨x.1.toArray⟩, .string ⟨x.2.toArray⟩] 66) = w2 at *
     have b0 := hb1.cell 0
     simp at b0
     have hnm := lname_walk x.1 m w2 (hM.below hd4 hM.lt) (hT.below hd4) (hW.below hd4) hnl
     generalize nameB x.1 = nb at *
     clear hnl
     go_wp2_with fail
     refine hnm.mono ?_
     clear hnm b0
     rintro e5 w5 ⟨rfl, hd5⟩
     have hd5' := hd4.trans (hd5.mono hd4.size)
     cases nb with
     | false =>
      have HR3 : Hid (R = 4) := by show _ = _; rw [HE.out, if_pos rfl]
      clear HE
      go_wp2_with fail
      go_ret
      exact ⟨by rw [HR3.out]; rfl, hd5'⟩
     | true =>
      have HE2 : Hid (R = if (ft.any fun g => g.1 == x.1) = true then 5 else Sc.namesF (fs.take (i + 1)) (fs.drop (i + 1))) := by show _ = _; rw [HE.out, if_neg (by decide)]
      have hb5 := hb1.below hd5 hb1.lt
      have hany := sc_fany (c := c) (hfr4.below hd5) (by rw [Hwl.out]; have := H16.out; have := Hlt.out; omega) (Fn := 119) (caps := #[.pointer (some ⟨bx, 0, none⟩)]) (P := fun g => g.1 == x.1) (fun _ _ => by kernel_rfl)
       (fun y w' hd => sc_chk1 (bx := bx) (n := x.1) ((hd.cell (p := ⟨bx, 0, none⟩) hb5.lt).trans (by have := hb5.cell 0; simpa using this)))
      rw [Hwl.out] at hany
      generalize (ft.any fun g => g.1 == x.1) = tw at *
      clear HE hfr4 hd4 hb1 hd5 hb5
      go_wp2_with fail
      refine hany.mono ?_
      clear hany
      rintro e6 w6 ⟨rfl, hd6⟩
      have hd6' := hd5'.trans (hd6.mono hd5'.size)
      cases tw with
      | true =>
       have HR3 : Hid (R = 5) := by show _ = _; rw [HE2.out, if_pos rfl]
       clear HE2
       go_wp2_with fail
       go_ret
       exact ⟨by rw [HR3.out]; rfl, hd6'⟩
      | false =>
       have HR3 : Hid (Sc.namesF [] fs = Sc.namesF (fs.take (i + 1)) (fs.drop (i + 1))) := by show _ = _; rw [← HR2.out, HE2.out, if_neg (by decide)]
       clear HE2
       go_wp2_with fail
       go_roundg (fs.length - (i + 1))
       case rel => exact ⟨i + 1, by go_num, by have := Hlt.out; omega, Nat.le_refl _, HR3, hd6'⟩
       case measure => have := Hlt.out; have := Hm.out; omega
    ·obtain rfl : i = fs.length := by omega
     have i1 : ¬ (fs.length : Int) < (fs.length : Int) := by omega
     have i2 : decide (fs.length < fs.length) = false := by simp
     have HR3 : Hid (R = 0) := by show _ = _; rw [HR2.out, HB.out, List.drop_length]; rfl
     clear hlt hi hm HB HR2
     go_wp2_with fail
     go_ret
     exact ⟨by rw [HR3.out]; rfl, hd2⟩
theorem Sc.kids_q {s : Bs} {T : List Tk} (hS : Tr.Side s T) : ∀ (f i : Nat), i ≤ T.length → ∀ k ∈ (Tr.kidsP s T f i).1, Tr.wfP k.part ∧ Tr.okP k.base k.part k.base ∧ k.base + Tr.wideP k.part ≤ s.length
 | 0, i, _, k, hk => absurd hk (by unfold Tr.kidsP; simp)
 | f + 1, i, hi, k, hk => by
  rw [Tr.kids_succ] at hk
  split at hk
  ·rename_i hn
   obtain ⟨a1, a2, a3, a4⟩ := Tr.oneP_text ((Tr.kid_fine hS).at_ hi)
   rcases List.mem_cons.1 hk with rfl | hk
   ·refine ⟨a2, Tr.kid_okd hS i hi hn, ?_⟩
    have h1 := Tr.wide_text (Tr.kidP s T i).1
    rw [a1, Tr.sl_len hS.good a3] at h1
    have h2 := hS.good.abs_le (Tr.kidP s T i).2
    have h3 := hS.good.up i _ a3
    show Tr.absP s T i + Tr.wideP (Tr.kidP s T i).1 ≤ s.length
    omega
   ·exact Sc.kids_q hS f (Tr.kidP s T i).2 a4 k hk
  ·simp at hk
mutual
theorem low_ok {b N : Nat} (hN : N ≤ 1000000) : ∀ (p : Tr.PT) (a : Nat), Tr.okP b p a → a + Tr.wideP p ≤ N → Tr.cntP p ≤ 1000000 → lowP b p
 | .leaf k t x, a, h, hw, _ => by
  unfold Tr.okP at h
  unfold Tr.wideP at hw
  unfold lowP
  omega
 | .gap t x d, a, _, _, _ => by unfold lowP; trivial
 | .branch k x l, a, h, hw, hc => by
  unfold Tr.okP at h
  unfold Tr.wideP at hw
  unfold Tr.cntP at hc
  unfold lowP
  have h1 := Tr.cnt_len l
  exact ⟨by omega, lows_ok hN l a h.2.1 hw (by omega)⟩
theorem lows_ok {b N : Nat} (hN : N ≤ 1000000) : ∀ (l : List Tr.PT) (a : Nat), Tr.oksP b l a → a + Tr.widesP l ≤ N → Tr.cntsP l ≤ 1000000 → lowsP b l
 | [], _, _, _, _ => by unfold lowsP; trivial
 | p :: l, a, h, hw, hc => by
  unfold Tr.oksP at h
  unfold Tr.widesP at hw
  unfold Tr.cntsP at hc
  unfold lowsP
  have h2 := h.2
  rw [Tr.put_end] at h2
  exact ⟨low_ok hN p a h.1 (by omega) (by omega), lows_ok hN l (a + Tr.wideP p) h2 (by omega) (by omega)⟩
end
theorem Lx.tok_ne : ∀ (n a : Nat) (s : Bs), s.length - a ≤ n → ∀ t ∈ Lx.tokR a (s.drop a), Tr.subT s t ≠ []
 | 0, a, s, h => by
  have e : s.drop a = [] := List.drop_eq_nil_of_le (by omega)
  rw [e, Lx.tokR_nil]
  intro t ht
  simp at ht
 | n + 1, a, s, h => by
  by_cases hne : s.drop a = []
  ·rw [hne, Lx.tokR_nil]
   intro t ht
   simp at ht
  ·have h1 := Lx.one_le _ hne
   rw [Lx.tokR_cons a hne, List.drop_drop]
   rw [List.length_drop] at h1
   have ih := Lx.tok_ne n (a + (Lx.oneM (s.drop a)).2) s (by omega)
   intro t ht
   rcases List.mem_cons.1 ht with rfl | ht
   ·intro e
    have h2 := congrArg List.length e
    unfold Tr.subT at h2
    dsimp only at h2
    rw [List.length_take, List.length_drop] at h2
    simp at h2
    omega
   ·exact ih t ht
def Sc.kidsM (s : Bs) : List Tr.Kd := (Tr.kidsP s (Lx.tokR 0 s) ((Lx.tokR 0 s).length + 1) 0).1
theorem Sc.side {s : Bs} (hs : s.length ≤ 20000) : Tr.Side s (Lx.tokR 0 s) ∧ (Lx.tokR 0 s).length ≤ s.length ∧ ∀ t ∈ Lx.tokR 0 s, Tr.subT s t ≠ [] := by
 have hTl := Lx.tokR_len s.length 0 s (Nat.le_refl _)
 obtain ⟨hS, -⟩ := Lx.tok_side s (by omega) hTl
 have h1 := Lx.tok_ne s.length 0 s (by omega)
 rw [List.drop_zero] at h1
 exact ⟨hS, hTl, h1⟩
theorem Sc.kids_cnts {s : Bs} (hs : s.length ≤ 20000) : Tr.cntsP ((Sc.kidsM s).map (·.part)) ≤ 600000 := by
 obtain ⟨hS, hl, _⟩ := Sc.side hs
 obtain ⟨_, h2, h3⟩ := Tr.kids_ct s (Lx.tokR 0 s) ((Lx.tokR 0 s).length + 1) 0 (Nat.zero_le _)
 unfold Sc.kidsM
 omega
theorem Sc.kids_ksok {s : Bs} (hs : s.length ≤ 20000) : KsOk (Sc.kidsM s) := by
 obtain ⟨hS, hl, hne⟩ := Sc.side hs
 have hc := Sc.kids_cnts hs
 have h1 := Tr.cnt_len ((Sc.kidsM s).map (·.part))
 rw [List.length_map] at h1
 refine ⟨by omega, fun k hk hi => ?_⟩
 have hq := Sc.kids_q hS _ 0 (Nat.zero_le _) k hk
 have h2 := Tr.cnt_mem (l := (Sc.kidsM s).map (·.part)) (List.mem_map.2 ⟨k, hk, rfl⟩)
 exact ⟨Sc.kids_shape hne _ 0 k hk hi, low_ok (N := s.length) (by omega) k.part k.base hq.2.1 hq.2.2 (by omega), by omega⟩
def Sc.wkM (fs : List Fl) : Sc.Wk := Sc.workM (fs.map fun f => (f.1, Sc.kidsM f.2))
theorem Sc.wk_eq (fs : List Fl) : Sc.wkOf fs (fs.map fun f => Sc.kidsM f.2) = Sc.wkM fs := by
 unfold Sc.wkOf Sc.wkM Sc.workM
 rw [List.zipIdx_map, List.zipIdx_map, List.map_map, List.map_map, List.map_map]
 rfl
theorem flat_len {α β : Type} (f : α → List β) (N : Nat) : ∀ l : List α, (∀ x ∈ l, (f x).length ≤ N) → ((l.map f).flatten).length ≤ l.length * N
 | [], _ => by simp
 | x :: l, h => by
  have h1 := flat_len f N l fun y hy => h y (List.mem_cons_of_mem _ hy)
  have h2 := h x (List.mem_cons_self ..)
  rw [List.map_cons, List.flatten_cons, List.length_append, List.length_cons, Nat.succ_mul]
  omega
def Sc.nbL : List Tr.PT → Nat
 | [] => 0
 | p :: l => (if Sc.isBr p then 0 else 1) + Sc.nbL l
def Sc.nbK (p : Tr.PT) : Nat := Sc.nbL (Sc.kidsOf p)
def Sc.bsL : List Tr.PT → Nat
 | [] => 0
 | p :: l => Sc.nbK p + Sc.bsL l
theorem Sc.names_nb : ∀ l : List Tr.PT, (l.filterMap Sc.nameL).length ≤ Sc.nbL l
 | [] => Nat.le_refl _
 | p :: l => by
  have ih := Sc.names_nb l
  rw [List.filterMap_cons]
  unfold Sc.nbL
  cases p with
  | branch k a m =>
   simp only [Sc.nameL, Sc.isBr]
   simpa using ih
  | leaf k t a =>
   simp only [Sc.isBr]
   split <;> simp <;> omega
  | gap t a d =>
   simp only [Sc.isBr]
   split <;> simp <;> omega
theorem Sc.nb_mem : ∀ {l : List Tr.PT} {q : Tr.PT}, q ∈ l → Sc.nbK q ≤ Sc.bsL l
 | p :: l, q, h => by
  unfold Sc.bsL
  rcases List.mem_cons.1 h with rfl | h
  ·omega
  ·have := Sc.nb_mem h
   omega
theorem Sc.nb_at {l m : List Tr.PT} (h : ∀ q ∈ m, q ∈ l) (i : Nat) : Sc.nbK (Sc.atP m i) ≤ Sc.bsL l := by
 unfold Sc.atP
 cases e : m[i]? with
 | none => exact Nat.zero_le _
 | some q => exact Sc.nb_mem (h q (List.mem_of_getElem? e))
theorem Sc.words_nb (b : Nat) (p : Tr.PT) : (Sc.wordsOf b p).length ≤ Sc.nbK p := by
 unfold Sc.wordsOf Sc.namesP Sc.nbK
 rw [List.length_map]
 exact Sc.names_nb _
theorem Sc.params_nb (f : Nat) : ∀ (l ahead : List (Option Sc.Wd)), (Sc.paramsM f ahead l).length ≤ l.length
 | [], _ => by unfold Sc.paramsM; exact Nat.le_refl _
 | none :: l, ahead => by unfold Sc.paramsM; exact Nat.le_succ_of_le (Sc.params_nb f l _)
 | some w :: l, ahead => by unfold Sc.paramsM; exact Nat.succ_le_succ (Sc.params_nb f l _)
theorem Sc.visit_nb (W : Sc.Wk) (x : Sc.It) (e : Sc.Env) (k a : Nat) (l : List Tr.PT) : (Sc.visitM W x e (.branch k a l)).length ≤ 1 + Sc.bsL l := by
 unfold Sc.visitM
 split
 ·rw [List.length_map]
  cases Sc.letM x.base (.branch k a l) <;> simp
 ·split
  ·have h1 := Sc.params_nb x.file (Sc.wordsOf x.base (Sc.atP (Sc.senseP (.branch k a l)) 1)) []
   have h2 := Sc.words_nb x.base (Sc.atP (Sc.senseP (.branch k a l)) 1)
   have h3 := Sc.nb_at (l := l) (m := Sc.senseP (.branch k a l)) (fun q hq => (List.mem_filter.1 hq).1) 1
   omega
  ·split <;> simp
mutual
theorem Sc.walk_cnt (W : Sc.Wk) (x : Sc.It) : ∀ (p : Tr.PT) (e : Sc.Env), (Sc.walkM W x e p).length + Sc.nbK p ≤ Tr.cntP p
 | .leaf _ _ _, _ => by simp [Sc.walkM, Sc.nbK, Sc.kidsOf, Sc.nbL]
 | .gap _ _ _, _ => by simp [Sc.walkM, Sc.nbK, Sc.kidsOf, Sc.nbL]
 | .branch k a l, e => by
  have h1 := Sc.visit_nb W x e k a l
  have h2 := Sc.walks_cnt W x l (Sc.env1 x e (.branch k a l)) (Sc.env2 x e (.branch k a l))
  rw [Sc.walkM, List.length_append, Tr.cntP]
  show _ + Sc.nbL l ≤ _
  omega
theorem Sc.walks_cnt (W : Sc.Wk) (x : Sc.It) : ∀ (l : List Tr.PT) (e1 e2 : Sc.Env), (Sc.walksM W x e1 e2 l).length + Sc.bsL l + Sc.nbL l ≤ Tr.cntsP l
 | [], _, _ => by simp [Sc.walksM, Sc.bsL, Sc.nbL, Tr.cntsP]
 | p :: l, e1, e2 => by
  have h1 := Sc.walk_cnt W x p e1
  have h2 := Sc.walks_cnt W x l e1 e2
  have h3 := Sc.walks_cnt W x l e2 e2
  rw [Sc.walksM, Sc.bsL, Sc.nbL, Tr.cntsP]
  cases p with
  | branch k a m =>
   simp only [Sc.isBr, if_true] at *
   split
   ·rw [List.length_append]
    omega
   ·omega
  | leaf k t a =>
   simp only [Sc.isBr, Sc.walkM, Sc.nbK, Sc.kidsOf, Sc.nbL, Tr.cntP] at *
   split
   ·simp
    omega
   ·simp
    omega
  | gap t a d =>
   simp only [Sc.isBr, Sc.walkM, Sc.nbK, Sc.kidsOf, Sc.nbL, Tr.cntP] at *
   split
   ·simp
    omega
   ·simp
    omega
end
theorem Sc.kid_cnt (p : Tr.PT) : Tr.cntsP (Sc.kidsOf p) ≤ Tr.cntP p := by
 cases p with
 | branch k a l =>
  rw [Tr.cntP]
  show Tr.cntsP l ≤ _
  omega
 | leaf k t a => exact Nat.zero_le _
 | gap t a d => exact Nat.zero_le _
theorem Sc.body_in (p : Tr.PT) : ∀ q ∈ Sc.bodyOf p, q ∈ Sc.kidsOf p := fun q h => by
 unfold Sc.bodyOf at h
 split at h
 ·exact (List.mem_filter.1 (List.mem_of_mem_drop h)).1
 ·exact (List.mem_filter.1 h).1
theorem Sc.item_cnt (W : Sc.Wk) (f k n : Nat) (kd : Tr.Kd) : (Sc.itemUses W f k (Sc.itemM n kd)).length ≤ 5 * Tr.cntP kd.part := by
 have hp := Tr.cnt_pos kd.part
 unfold Sc.itemUses
 split
 ·unfold Sc.defM
  have h1 := Sc.params_nb (Sc.itemM n kd).file (Sc.itemM n kd).params []
  have h2 : (Sc.itemM n kd).params.length ≤ Tr.cntP kd.part := by
   unfold Sc.itemM
   dsimp only
   split
   ·have h3 := Sc.words_nb kd.base (Sc.atP (Sc.bodyOf kd.part) 2)
    have h4 := Sc.nb_at (l := Sc.kidsOf kd.part) (Sc.body_in kd.part) 2
    have h5 := Sc.walks_cnt W (Sc.itemM n kd) (Sc.kidsOf kd.part) [] []
    have h6 := Sc.kid_cnt kd.part
    omega
   ·exact Nat.zero_le _
  have h7 : Tr.cntP (Sc.itemM n kd).expr ≤ Tr.cntP kd.part := by
   have hat : ∀ i, Tr.cntP (Sc.atP (Sc.bodyOf kd.part) i) ≤ Tr.cntP kd.part := fun i => by
    unfold Sc.atP
    cases e : (Sc.bodyOf kd.part)[i]? with
    | none => exact hp
    | some q =>
     have h3 := Tr.cnt_mem (Sc.body_in kd.part q (List.mem_of_getElem? e))
     have h4 := Sc.kid_cnt kd.part
     show Tr.cntP q ≤ _
     omega
   unfold Sc.itemM
   dsimp only
   split
   ·split
    ·exact hat 4
    ·exact hat 3
   ·exact hp
  have h8 := Sc.walk_cnt W (Sc.itemM n kd) (Sc.itemM n kd).expr (Sc.innerM (Sc.itemM n kd).params [])
  have h9 : ((Sc.itemM n kd).name.toList.map fun w => Sc.itselfM (Sc.itemM n kd).file w.at_ 0 (Sc.twiceM (Sc.itemsAt W f) k)).length ≤ 1 := by
   rw [List.length_map]
   cases (Sc.itemM n kd).name <;> simp
  rw [List.length_append, List.length_append]
  omega
 ·unfold Sc.useM
  simp only [List.length_append, List.length_map]
  have h1 : ∀ o : Option Sc.Wd, o.toList.length ≤ 1 := fun o => by cases o <;> simp
  have h2 := h1 (Sc.itemM n kd).mo
  have h3 := h1 (Sc.itemM n kd).me
  have h4 := h1 (Sc.itemM n kd).al
  omega
theorem Sc.file_cnt2 (W : Sc.Wk) (f n : Nat) : ∀ (ks : List Tr.Kd) (m : Nat), (((((ks.filter Sc.isItem).map (Sc.itemM n)).zipIdx m).map fun y => Sc.itemUses W f y.2 y.1).flatten).length ≤ 5 * Tr.cntsP (ks.map (·.part))
 | [], _ => by simp
 | kd :: ks, m => by
  have h0 := Sc.file_cnt2 W f n ks m
  have h1 := Sc.file_cnt2 W f n ks (m + 1)
  have h2 := Sc.item_cnt W f m n kd
  rw [List.filter_cons, List.map_cons, Tr.cntsP]
  split
  ·rw [List.map_cons, List.zipIdx_cons, List.map_cons, List.flatten_cons, List.length_append]
   dsimp only at *
   omega
  ·omega
theorem Sc.file_cnt3 (W : Sc.Wk) (g : Nat) {s : Bs} (hs : s.length ≤ 20000) : (Sc.fileUses W g (Sc.itemsM g (Sc.kidsM s))).length ≤ 3000000 := by
 have h1 := Sc.file_cnt2 W g g (Sc.kidsM s) 0
 have h3 := Sc.kids_cnts hs
 unfold Sc.fileUses Sc.itemsM
 omega
theorem Sc.uses_cnt2 (fs : List Fl) (hl : fs.length ≤ 16) (hs : ∀ f ∈ fs, f.2.length ≤ 20000) : (Sc.usesM (Sc.wkM fs)).length ≤ 48000000 := by
 have h1 : Sc.usesM (Sc.wkM fs) = ((fs.zipIdx.map fun y => Sc.fileUses (Sc.wkM fs) y.2 (Sc.itemsM y.2 (Sc.kidsM y.1.2)))).flatten := by
  have e : (Sc.wkM fs).items.zipIdx.map (fun y => Sc.fileUses (Sc.wkM fs) y.2 y.1) = fs.zipIdx.map fun y => Sc.fileUses (Sc.wkM fs) y.2 (Sc.itemsM y.2 (Sc.kidsM y.1.2)) := by
   unfold Sc.wkM Sc.workM
   dsimp only
   apply List.ext_getElem?
   intro i
   simp only [List.getElem?_map, List.getElem?_zipIdx]
   cases fs[i]? <;> simp
  unfold Sc.usesM
  rw [e]
 rw [h1]
 have h2 := flat_len (fun y : Fl × Nat => Sc.fileUses (Sc.wkM fs) y.2 (Sc.itemsM y.2 (Sc.kidsM y.1.2))) 3000000 fs.zipIdx fun y hy => Sc.file_cnt3 _ _ (hs y.1 (by
  obtain ⟨k, hk, e⟩ := List.getElem_of_mem hy
  rw [List.getElem_zipIdx] at e
  rw [← e]
  exact List.getElem_mem _))
 rw [List.length_zipIdx] at h2
 omega
theorem Sc.many_cnt (fs : List Fl) (hl : fs.length ≤ 16) (hs : ∀ f ∈ fs, f.2.length ≤ 20000) : Sc.manyM (Sc.wkM fs) ≤ 9600000 := by
 have h1 : Sc.manyM (Sc.wkM fs) = (((fs.zipIdx.map fun y => Sc.itemsM y.2 (Sc.kidsM y.1.2)))).flatten.length := by
  have e : (Sc.wkM fs).items = fs.zipIdx.map fun y => Sc.itemsM y.2 (Sc.kidsM y.1.2) := by
   unfold Sc.wkM Sc.workM
   dsimp only
   rw [List.zipIdx_map, List.map_map]
   rfl
  unfold Sc.manyM
  rw [e, List.length_flatten]
 rw [h1]
 have h2 := flat_len (fun y : Fl × Nat => Sc.itemsM y.2 (Sc.kidsM y.1.2)) 600000 fs.zipIdx fun y hy => by
  have hy2 : y.1.2.length ≤ 20000 := hs y.1 (by
   obtain ⟨k, hk, e⟩ := List.getElem_of_mem hy
   rw [List.getElem_zipIdx] at e
   rw [← e]
   exact List.getElem_mem _)
  have h3 := Sc.kids_cnts hy2
  have h4 := Tr.cnt_len ((Sc.kidsM y.1.2).map (·.part))
  rw [List.length_map] at h4
  unfold Sc.itemsM
  rw [List.length_map]
  have h5 := List.length_filter_le Sc.isItem (Sc.kidsM y.1.2)
  omega
 rw [List.length_zipIdx] at h2
 omega
end Go.Proofs.YtcjjfeephaddcaaGreatDoor
namespace Go.Proofs.YtcjjfeephaddcaaGreatDoor
open Go.RowKit Go.Maps
theorem Sc.fault_zero {fs : List Fl} (h : Sc.faultM fs = 0) : fs.length ≤ 16 ∧ ∀ f ∈ fs, f.2.length ≤ 20000 := by
 unfold Sc.faultM at h
 by_cases h1 : 16 < fs.length
 ·rw [if_pos h1] at h; cases h
 rw [if_neg h1] at h
 by_cases h2 : (fs.any fun f => decide (20000 < f.2.length)) = true
 ·rw [if_pos h2] at h; cases h
 refine ⟨by omega, fun f hf => ?_⟩
 have h3 : ¬ 20000 < f.2.length := fun h4 => h2 (List.any_eq_true.2 ⟨f, hf, by simpa using h4⟩)
 omega
def TreeTk (w : World) (F : Nat → Prop) (gt : Nat) (T : List Tk) (ks : List Tr.Kd) (ts : List Tr.PT) : Prop := F gt ∧ ∃ d A c, TreeIs w F gt d A c T ks ts ∧ RowF w F A (tksC T) ∧ T.length ≤ c
theorem TreeTk.keep {w w' : World} {F F' : Nat → Prop} {gt : Nat} {T : List Tk} {ks : List Tr.Kd} {ts : List Tr.PT} (h : TreeTk w F gt T ks ts) (hs : w.heap.size ≤ w'.heap.size) (hk : ∀ b, F b → b < w.heap.size → w'.heap[b]? = w.heap[b]? ∧ F' b) : TreeTk w' F' gt T ks ts := by
 obtain ⟨hg, d, A, c, hT, hr, hc⟩ := h
 obtain ⟨Av, cv, At, ct, vs, us, hB, h1, h2, h3, h4, h5, h6⟩ := hT.ex
 have hg2 := hk gt hg hB.lt
 exact ⟨hg2.2, d, A, c, ⟨⟨Av, cv, At, ct, vs, us, hg2.1.trans hB, h1, h2, h3.keep hs hk, KdsF.keep hs hk _ _ h4, h5.keep hs hk, PtsF.keep hs hk _ _ h6⟩⟩, hr.keep hs hk, hc⟩
def Sc.tailM (s : Bs) : List Tr.PT := Tr.tailP s (Lx.tokR 0 s) (Tr.kidsP s (Lx.tokR 0 s) ((Lx.tokR 0 s).length + 1) 0).2
def TrsAt (w : World) (P : Nat → Prop) (fs : List Fl) (gts : List Nat) : Prop := ∀ (j gt : Nat) (f : Fl), gts[j]? = some gt → fs[j]? = some f → TreeTk w P gt (Lx.tokR 0 f.2) (Sc.kidsM f.2) (Sc.tailM f.2)
structure TrsR (w : World) (B : Nat) (P : Nat → Prop) (fs : List Fl) (gts : List Nat) (Ar : Option Addr) (cr : Nat) : Prop where
 row : w.ownsRow B 51 1 (.slice Ar gts.length cr) gts.length (gts.map ptrV)
 trs : TrsAt w P fs gts
 lt : ∀ b, P b → b < w.heap.size
 nr : ∀ q, (Value.slice Ar gts.length cr).ownBlock = some q → ¬ P q
theorem bd_treep : (Tryz.prog.info? 51).map (fun i => (i.zero, i.size, i.bytes)) = some (some (.pointer none), 1, 8) := by kernel_rfl
def SnewE (n : Nat) (w : World) (fs : List Fl) (A : Option Addr) (c : Nat) (e : Ending) (w' : World) : Prop := Below w.heap.size w w' ∧
 (n ≠ 0 → e = .returned (.tuple #[.pointer none, errV n])) ∧
 (n = 0 → ∃ pg w1 P At gts ct, e = .returned (.tuple #[ptrV pg, .nilIface]) ∧ ProgIs w1 w' P A c (.slice At gts.length ct) fs (fs.map fun f => Sc.kidsM f.2) pg ∧ Below w.heap.size w w1 ∧ gts.length = fs.length ∧ gts.length ≤ ct ∧ RowF w1 (fun b => w.heap.size ≤ b) At (gts.map ptrV) ∧ TrsAt w1 P fs gts)
set_option maxHeartbeats 8000000 in
set_option maxRecDepth 100000 in
theorem sc_new {w : World} {A : Option Addr} {c : Nat} {fs : List Fl} {m : Int} (hr : FlR w A fs) (hM : MaxL w m) (hT : T8 w) (hW : WordsIs w) (hn : ∀ f ∈ fs, f.1.length ≤ 8388608) (hcap : fs.length ≤ c) :
  Calls Tryz.prog 32 #[.slice A fs.length c] w (SnewE (Sc.faultM fs) w fs A c) := by
 have hch := sc_check hr hM hT hW hn hcap
 have Hz := Lib.hid (@Sc.fault_zero fs)
 have HM := Lib.hid hM
 have HT := Lib.hid hT
 have HW := Lib.hid hW
 have Hr := Lib.hid hr
 clear hn hcap hM hT hW hr
 generalize Sc.faultM fs = R at *
 go_enter Tryz.func32, Tryz.ntmps32
 go_wp2_with fail
 refine hch.mono ?_
 clear hch
 rintro e1 w1 ⟨rfl, hd1⟩
 cases R with
 | succ R =>
  clear Hz
  unfold errV
  go_wp2_with fail
  go_ret2
  exact ⟨hd1, fun _ => rfl, fun h => absurd h (by omega)⟩
 | zero =>
  unfold errV
  obtain ⟨h16, htx⟩ := Hz.out rfl
  have H16 := Lib.hid h16
  have Htx := Lib.hid htx
  have hR0 : TrsR w1 w.heap.size (fun _ => False) fs [] none 0 := ⟨World.ownsRow_nil _ _ _ _, fun j gt f h => by simp at h, fun b h => h.elim, fun q _ h => h⟩
  clear Hz h16 htx
  obtain ⟨i0, ji, jz0, jz1, jz2⟩ := info_parts bd_treep
  go_wp2_with fail
  go_loopg [5, 15] fs.length (fun mm v u wr => ∃ (i : Nat) (gts : List Nat) (Ar : Option Addr) (cr : Nat) (P : Nat → Prop), v = .slice Ar gts.length cr ∧ u = .int .i64 (i : Int) ∧ i ≤ fs.length ∧ fs.length - i ≤ mm ∧ TrsR wr w.heap.size P fs gts Ar cr ∧ Below w.heap.size w wr ∧ gts.length = i)
  case atStart => exact ⟨0, [], none, 0, _, rfl, rfl, Nat.zero_le _, Nat.le_refl _, hR0, hd1, rfl⟩
  case round =>
   obtain ⟨i, gts, Ar, cr, P, rfl, rfl, hi, hm, hR, hd, hgl⟩ := hrel
   have Hgl := Lib.hid hgl
   clear hR0 hgl
   by_cases hlt : i < fs.length
   ·have ii0 : (0 : Int) ≤ (i : Int) := by omega
    have ii1 : (i : Int) < (fs.length : Int) := by omega
    obtain ⟨br, o, rfl, hbl, hc0, hc1⟩ := Hr.out.at_ hlt
    have q0 := (hd.cell (p := ⟨br, o + i * 2, none⟩) hbl).trans hc0
    have q1 := (hd.cell (p := ⟨br, o + i * 2 + 1, none⟩) hbl).trans hc1
    have c1 : IntKind.i64.wrap ((i : Int) + 1) = (i : Int) + 1 := IntWalk.i64_in _ (by have := H16.out; omega)
    have hxl := Htx.out fs[i] (List.getElem_mem hlt)
    have Hx : Hid (fs[i]? = some fs[i]) := List.getElem?_eq_getElem hlt
    have Hlt := Lib.hid hlt
    have Hm := Lib.hid hm
    have hd3 : Below wr.heap.size wr (wr.alloc (.cells #[.string ⟨fs[i].1.toArray⟩, .string ⟨fs[i].2.toArray⟩] 66)) := (Below.refl _ _).alloc (Nat.le_refl _) _
    have hb1 := Blk.new wr 66 #[.string ⟨fs[i].1.toArray⟩, .string ⟨fs[i].2.toArray⟩]
    generalize fs[i] = x at *
    clear hc0 hc1 hbl hlt hm hi
    go_upto_region 8 with fail
    obtain ⟨bx, hbx⟩ : ∃ bx, bx = wr.heap.size := ⟨_, rfl⟩
    rw [← hbx] at hb1 ⊢
    clear hbx q0 q1
    generalize wr.alloc (.cells #[.string ⟨x.1.toArray⟩, .string ⟨x.2.toArray⟩] 66) = w2 at *
    have hd2 := hd.trans (hd3.mono hd.size)
    have b1 := hb1.cell 1
    simp at b1
    have htn := tnew_walk x.2 m w2 (HM.out.below hd2 HM.out.lt) (HT.out.below hd2) (HW.out.below hd2) (by omega)
    have Hxl := Lib.hid hxl
    clear hxl
    go_wp2_with fail
    refine htn.mono ?_
    clear htn b1
    rintro e3 w3 ⟨gt, rfl, hto, hd4⟩
    have hd4' := hd2.trans (hd4.mono hd2.size)
    have hz4 : w.heap.size ≤ w3.heap.size := hd4'.size
    have hd5 := hd3.trans (hd4.mono hd3.size)
    have hrow3 : w3.ownsRow w.heap.size 51 1 (.slice Ar gts.length cr) gts.length (gts.map ptrV) := own_of_block hR.row fun b hb => hd5.block b (hR.row.lt b hb).2
    have htk : TreeTk w3 (fun b => P b ∨ (w2.heap.size ≤ b ∧ b < w3.heap.size)) gt (Lx.tokR 0 x.2) (Sc.kidsM x.2) (Sc.tailM x.2) := by
     obtain ⟨dd, Ad, cd, hI, _, _, hro, hco, _⟩ := hto.ex
     exact TreeTk.keep (w := w3) (F := fun b => w2.heap.size ≤ b) ⟨hto.at_, dd, Ad, cd, hI, hro, hco⟩ (Nat.le_refl _) fun b hb hl => ⟨rfl, .inr ⟨hb, hl⟩⟩
    have Hold : Hid (TrsAt w3 (fun b => P b ∨ (w2.heap.size ≤ b ∧ b < w3.heap.size)) fs gts) := fun j g f h1 h2 => (hR.trs j g f h1 h2).keep hd5.size fun b hb hl => ⟨hd5.block b hl, .inl hb⟩
    have Htk := Lib.hid htk
    have Hlt3 : Hid (∀ b, (P b ∨ (w2.heap.size ≤ b ∧ b < w3.heap.size)) → b < w3.heap.size) := fun b hb => by
     rcases hb with hb | hb
     ·exact Nat.lt_of_lt_of_le (hR.lt b hb) hd5.size
     ·exact hb.2
    have Hnr3 : Hid (∀ q, (Value.slice Ar gts.length cr).ownBlock = some q → ¬ (P q ∨ (w2.heap.size ≤ q ∧ q < w3.heap.size))) := fun q hq hb => by
     rcases hb with hb | hb
     ·exact hR.nr q hq hb
     ·have := (hR.row.lt q hq).2
      have := hd3.size
      omega
    have hgl1 : Hid (gts.length ≤ 1000) := by show _ ≤ _; have := Hgl.out; have := Hlt.out; have := H16.out; omega
    have Hz4 := Lib.hid hz4
    have Hrow3 := Lib.hid hrow3
    have hz5 := World.size_alloc w3 (.cells #[.pointer (some ⟨gt, 0, none⟩)] 51)
    have hba := Blk.new w3 51 #[.pointer (some ⟨gt, 0, none⟩)]
    clear hto hd4 hd2 hd hR hb1 hd3 hd5 htk hz4
    go_wp2_with (at_builtin; refine wpList_append_lies _ rfl _ _ 81 rfl w.heap.size 51 i0 _ 1 8 Tryz.underlying81 ji jz0 jz1 jz2 rfl (by omega) _ gts.length _ rfl (Hrow3.out.alloc _) ⟨w3.heap.size, 0, none⟩ 1 1 [.pointer (some ⟨gt, 0, none⟩)] rfl rfl (World.news_of_block (cs := #[.pointer (some ⟨gt, 0, none⟩)]) (t := 51) (fr := (0, 0)) hba) (by simp [Value.oneCell']) (by omega) (by have := hgl1.out; unfold maxLen; omega) (by have := hgl1.out; omega) (by have := Hz4.out; simp; omega) _ rfl ?_; intro g' cap' w6 hown6 hg6 hat6 hlt6)
    have hsz6 : w3.heap.size ≤ w6.heap.size := by have := hg6.size; omega
    have hrw6 : ∀ b, b < w3.heap.size → (Value.slice Ar gts.length cr).ownBlock ≠ some b → w6.heap[b]? = w3.heap[b]? := fun b hb hne => (hg6.block b (by omega) fun e => hne e.symm).trans (Below.heap_alloc w3 _ b hb)
    have hR6 : TrsR w6 w.heap.size (fun b => P b ∨ (w2.heap.size ≤ b ∧ b < w3.heap.size)) fs (gts ++ [gt]) (some ⟨g', 0, none⟩) cap' := by
     refine ⟨by rw [List.length_append, List.map_append]; exact hown6, fun j g f h1 h2 => ?_, fun b hb => Nat.lt_of_lt_of_le (Hlt3.out b hb) hsz6, fun q hq hb => ?_⟩
     ·have hkeep : ∀ b, (P b ∨ (w2.heap.size ≤ b ∧ b < w3.heap.size)) → b < w3.heap.size → w6.heap[b]? = w3.heap[b]? ∧ (P b ∨ (w2.heap.size ≤ b ∧ b < w3.heap.size)) := fun b hb hl => ⟨hrw6 b hl fun e => Hnr3.out b e hb, hb⟩
      rcases Nat.lt_or_ge j gts.length with hj | hj
      ·rw [List.getElem?_append_left hj] at h1
       exact (Hold.out j g f h1 h2).keep hsz6 hkeep
      ·have hj' := (List.getElem?_eq_some_iff.1 h1).1
       simp at hj'
       obtain rfl : j = gts.length := by omega
       simp at h1
       subst h1
       rw [Hgl.out, Hx.out] at h2
       injection h2 with h2
       subst h2
       exact Htk.out.keep hsz6 hkeep
     ·have e : q = g' := by
       simp only [Value.ownBlock, Option.some.injEq] at hq
       exact hq.symm
      subst e
      rcases hat6 with h | h
      ·exact Hnr3.out q h hb
      ·have := Hlt3.out q hb
       omega
    have hd6 : Below w.heap.size w w6 := hd4'.trans (((Below.refl _ _).alloc (by have := Hz4.out; exact this) _).grown hg6 (by have := Hz4.out; omega) fun q hq => (Hrow3.out.lt q hq).1)
    go_roundg (fs.length - (i + 1))
    case rel => exact ⟨i + 1, gts ++ [gt], _, _, _, by rw [List.length_append]; rfl, by go_num, by have := Hlt.out; omega, Nat.le_refl _, hR6, hd6, by rw [List.length_append, Hgl.out]; rfl⟩
    case measure => have := Hlt.out; have := Hm.out; omega
   ·obtain rfl : i = fs.length := by omega
    have i1 : ¬ (fs.length : Int) < (fs.length : Int) := by omega
    have i2 : decide (fs.length < fs.length) = false := by simp
    have hkk : (fs.map fun f => Sc.kidsM f.2).length = fs.length := List.length_map ..
    obtain ⟨hcp, hrw, _⟩ := own_cap_row hR.row (fun b => w.heap.size ≤ b) fun _ h => h
    have hof := sc_of (KK := fs.map fun f => Sc.kidsM f.2) (c := c) (ct := cr) (gts := gts) (At := Ar) (P := P) (Hr.out.below hd) hkk.symm (by have := H16.out; omega) (hrw.keep (Nat.le_refl _) fun b _ _ => ⟨rfl, trivial⟩) (by rw [Hgl.out, hkk])
     (fun j gt ks h1 h2 => by
      rw [List.getElem?_map, Option.map_eq_some_iff] at h2
      obtain ⟨f, h2, rfl⟩ := h2
      obtain ⟨_, d, A', c', hI, _⟩ := hR.trs j gt f h1 h2
      exact ⟨d, A', c', _, _, hI⟩) hR.lt
     (fun ks hks => by obtain ⟨f, hf, rfl⟩ := List.mem_map.1 hks; exact Sc.kids_ksok (Htx.out f hf))
     (by rw [Sc.wk_eq]; have := Sc.uses_cnt2 fs H16.out Htx.out; omega) (by rw [Sc.wk_eq]; have := Sc.many_cnt fs H16.out Htx.out; omega)
    have Hcp := Lib.hid hcp
    have Hrw := Lib.hid hrw
    have Htrs := Lib.hid hR.trs
    clear hlt hi hm hR hkk hcp hrw
    go_wp2_with fail
    refine hof.mono ?_
    clear hof
    rintro e7 w7 ⟨pg, rfl, hpg⟩
    unfold ptrV
    go_wp2_with fail
    go_ret2
    have hb := hpg
    obtain ⟨_, _, _, _, _, _, _, _, _, hb7, _⟩ := hb
    exact ⟨hd.trans (hb7.mono hd.size), fun h => absurd rfl h, fun _ => ⟨pg, _, P, Ar, gts, cr, rfl, hpg, hd, Hgl.out, Hcp.out, Hrw.out, Htrs.out⟩⟩
def UsR (w : World) (A : Option Addr) (us : List Sc.Us) : Prop := Rd w w.heap.size 6 A us.length (us.flatMap fun u => (usC u).toList)
theorem UsR.below {w w' : World} {A : Option Addr} {us : List Sc.Us} (h : UsR w A us) (hd : Below w.heap.size w w') : UsR w' A us := (Rd.below h hd).more hd.size
theorem us_get : ∀ (us : List Sc.Us) (i j : Nat) (hi : i < us.length), j < 6 → (us.flatMap fun u => (usC u).toList)[i * 6 + j]? = (usC us[i]).toList[j]?
 | u :: us, 0, j, _, hj => by
  rw [List.flatMap_cons, List.getElem?_append_left (by simp [usC]; omega)]
  simp
 | u :: us, i + 1, j, hi, hj => by
  rw [List.flatMap_cons, List.getElem?_append_right (by simp [usC]; omega)]
  have h := us_get us i j (by simpa using hi) hj
  have e : (i + 1) * 6 + j - (usC u).toList.length = i * 6 + j := by simp [usC]; omega
  rw [e, h]
  rfl
theorem UsR.at_ {w : World} {A : Option Addr} {us : List Sc.Us} (h : UsR w A us) {i : Nat} (hi : i < us.length) : ∃ br o, A = some ⟨br, o, none⟩ ∧ br < w.heap.size ∧ ∀ j v, (usC us[i]).toList[j]? = some v → w.cell? ⟨br, o + i * 6 + j, none⟩ = some v := by
 obtain ⟨br, o, e, hl, hc⟩ := h.2 (by omega)
 refine ⟨br, o, e, hl, fun j v hj => ?_⟩
 have hj6 : j < 6 := by
  have := (List.getElem?_eq_some_iff.1 hj).1
  simpa [usC] using this
 rw [Nat.add_assoc]
 exact hc _ _ ((us_get us i j hi hj6).trans hj)
end Go.Proofs.YtcjjfeephaddcaaGreatDoor
