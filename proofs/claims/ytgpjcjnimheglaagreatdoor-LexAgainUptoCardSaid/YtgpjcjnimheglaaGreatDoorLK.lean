/-
  WALKS of package lex: next, Tokens; the law LexTiles.
-/
import Derived.Test.YtgpjcjnimheglaaGreatDoorLJ
import Derived.Deep.DeepCutAuto
namespace Go.Proofs.YtgpjcjnimheglaaGreatDoor
open Go.RowKit

abbrev Tk := Nat × Nat × Nat
def tkC (x : Tk) : List Value := [.int .i64 x.1, .int .i64 x.2.1, .int .i64 x.2.2]
def tksC (l : List Tk) : List Value := l.flatMap tkC
theorem tksC_len (l : List Tk) : (tksC l).length = l.length * 3 := by
  induction l with
  | nil => rfl
  | cons a l ih => simp only [tksC, List.flatMap_cons, List.length_append, List.length_cons] at *; rw [ih]; simp [tkC]; omega
theorem tksC_snoc (l : List Tk) (x : Tk) : tksC (l ++ [x]) = tksC l ++ tkC x := by simp [tksC]
theorem tksC_get (l : List Tk) (k j : Nat) (hj : j < 3) (hk : k < l.length) : (tksC l)[k * 3 + j]? = (tkC l[k])[j]? := by
  induction l generalizing k with
  | nil => simp at hk
  | cons a l ih =>
    cases k with
    | zero => simp only [tksC, List.flatMap_cons]; rw [List.getElem?_append_left (by simp [tkC]; omega)]; simp
    | succ k =>
      have h3 : (tkC a).length = 3 := rfl
      simp only [tksC, List.flatMap_cons]
      rw [List.getElem?_append_right (by omega), h3]
      have e : (k + 1) * 3 + j - 3 = k * 3 + j := by omega
      rw [e]
      have := ih k (by simpa using hk)
      simpa [tksC] using this
theorem infoTk : (Tryz.prog.info? 42).map (fun i => (i.zero, i.size, i.bytes)) = some (some (.agg #[.int .i64 0, .int .i64 0, .int .i64 0]), 3, 24) := by kernel_rfl

set_option maxHeartbeats 1000000 in
set_option maxRecDepth 100000 in
theorem next_walk (s : Bs) (k : Nat) (m : Int) (w : World) (hM : MaxL w m) (hT : T8 w) (hW : WordsIs w) (hk : k < s.length) (hl : s.length ≤ 100000000) :
    Calls Tryz.prog 38 #[.string ⟨s.toArray⟩, .int .i64 k] w fun e w' => e = .returned (.agg #[.int .i64 (Lx.oneM (s.drop k)).1, .int .i64 k, .int .i64 (Lx.oneM (s.drop k)).2]) ∧ Below w.heap.size w w' := by
  obtain ⟨i0, ji, jz0, jz1, jz2⟩ := info_parts infoTk
  have hne : s.drop k ≠ [] := by intro e; have := congrArg List.length e; simp at this; omega
  have hs := fun w1 (hb : Below w.heap.size w w1) => scan_walk (s.drop k) m w1 (hM.below hb hM.lt) (hT.below hb) (hW.below hb) hne (by rw [List.length_drop]; omega)
  rw [← ext_drop] at hs
  generalize Lx.oneM (s.drop k) = X at *
  obtain ⟨a, n⟩ := X
  have Hs : Hid (∀ w1, Below w.heap.size w w1 → Calls Tryz.prog 70 #[.string ((⟨s.toArray⟩ : ByteArray).extract k s.length)] w1 fun e w' => e = .returned (.tuple #[.int .i64 a, .int .i64 n]) ∧ Below w1.heap.size w1 w') := hs
  have hb1 : Below w.heap.size w (w.alloc (.cells #[.int .i64 0, .int .i64 0, .int .i64 0] 42)) := (Below.refl _ _).alloc (Nat.le_refl _) _
  have hB1 : Blk (w.alloc (.cells #[.int .i64 0, .int .i64 0, .int .i64 0] 42)) w.heap.size 42 #[.int .i64 0, .int .i64 0, .int .i64 0] := Blk.new _ _ _
  have i0' : (0 : Int) ≤ (k : Int) := by omega
  have i1 : (k : Int) ≤ (s.length : Int) := by omega
  clear hs hne
  go_enter Tryz.func38, Tryz.ntmps38
  go_wp2_with fail
  refine (Hs.out _ hb1).mono ?_
  clear Hs
  rintro e w2 ⟨rfl, hb2⟩
  have hB2 := hB1.below hb2 (by simp)
  have hb12 := hb1.trans (hb2.mono (by simp))
  have c0 := hB2.cell 0
  have c1 := hB2.cell 1
  have c2 := hB2.cell 2
  have f0 := hB2.frozen 0
  have f1 := hB2.frozen 1
  have f2 := hB2.frozen 2
  simp at c0 c1 c2
  clear hb1 hB1
  go_wp2_with fail
  have hB3 := ((hB2.set_ 0 (.int .i64 a)).set_ 1 (.int .i64 k)).set_ 2 (.int .i64 n)
  have hb3 := ((hb12.setCell (p := ⟨w.heap.size, 0, none⟩) (Nat.le_refl _) (.int .i64 a)).setCell (p := ⟨w.heap.size, 1, none⟩) (Nat.le_refl _) (.int .i64 k)).setCell (p := ⟨w.heap.size, 2, none⟩) (Nat.le_refl _) (.int .i64 n)
  exact bodyPost_ret (v := .agg #[.int .i64 a, .int .i64 k, .int .i64 n]) (results_cell_row (hu := Tryz.underlying42) (h := rfl) (hp := rfl) (hg := hB3) (hd := rfl) (hi := by kernel_rfl)) rfl ⟨rfl, hb3⟩
set_option maxRecDepth 100000 in
theorem tclip_walk (A : Option Addr) (n c : Nat) (w : World) (h : n ≤ c) (hn : A = none → c = 0) :
    Calls Tryz.prog 36 #[.slice A n c] w fun e w' => e = .returned (.slice A n n) ∧ w = w' := by
  cases A with
  | none =>
    have := hn rfl
    subst this
    obtain rfl : n = 0 := by omega
    go_enter Tryz.func36, Tryz.ntmps36
    go_wp2
    go_ret
    exact ⟨rfl, rfl⟩
  | some a =>
    go_enter Tryz.func36, Tryz.ntmps36
    go_wp2
    go_ret
    exact ⟨rfl, rfl⟩

theorem own_cap {w : World} {base : Nat} {e : TypeId} {size n : Nat} {v : Value} {xs : List Value} (h : w.ownsRow base e size v n xs) : ∃ Av cv, v = .slice Av n cv ∧ n ≤ cv ∧ (Av = none → cv = 0) := by
  rcases h.2 with ⟨rfl, hP0⟩ | ⟨g, cap, cur, rfl, _, _, hle, _⟩
  · exact ⟨none, 0, by rw [hP0], by omega, fun _ => rfl⟩
  · exact ⟨_, cap, rfl, hle, fun h => by cases h⟩
set_option maxHeartbeats 2000000 in
set_option maxRecDepth 100000 in
theorem tokens_walkO (s : Bs) (m : Int) (w : World) (hM : MaxL w m) (hT : T8 w) (hW : WordsIs w) (hl : s.length ≤ 8388608) :
    Calls Tryz.prog 17 #[.string ⟨s.toArray⟩] w fun e w' => ∃ A, e = .returned (.slice A (Lx.tokR 0 s).length (Lx.tokR 0 s).length) ∧ (∃ c, w'.ownsRow w.heap.size 42 3 (.slice A (Lx.tokR 0 s).length c) (Lx.tokR 0 s).length (tksC (Lx.tokR 0 s))) ∧ Below w.heap.size w w' := by
  obtain ⟨i0, ji, jz0, jz1, jz2⟩ := info_parts infoTk
  generalize hR : Lx.tokR 0 s = R
  have HR := Lib.hid hR
  clear hR
  go_enter Tryz.func17, Tryz.ntmps17
  go_wp2_with fail
  go_loopw [3, 4] (fun v i wr => ∃ (k : Nat) (done : List Tk), i = .int .i64 k ∧ k ≤ s.length ∧ done.length ≤ k ∧ wr.ownsRow w.heap.size 42 3 v done.length (tksC done) ∧ Below w.heap.size w wr ∧ Hid (R = done ++ Lx.tokR k (s.drop k))) (fun _ i _ => s.length - (intOf i).toNat)
  case atStart => exact ⟨0, [], rfl, Nat.zero_le _, Nat.le_refl _, World.ownsRow_nil _ _ _ _, Below.refl _ _, by show _ = _; rw [← HR.out]; rfl⟩
  case round =>
    obtain ⟨k, done, rfl, hk, hdl, hown, hb, H⟩ := hrel
    have hbs := hb.size
    by_cases hlt : k < s.length
    · have hne : s.drop k ≠ [] := by intro e; have := congrArg List.length e; simp at this; omega
      have hnx := next_walk s k m wr (hM.below hb hM.lt) (hT.below hb) (hW.below hb) hlt (by omega)
      have hone := Lx.one_le (s.drop k) hne
      have Hs : Hid (R = (done ++ [((Lx.oneM (s.drop k)).1, k, (Lx.oneM (s.drop k)).2)]) ++ Lx.tokR (k + (Lx.oneM (s.drop k)).2) (s.drop (k + (Lx.oneM (s.drop k)).2))) := by
        show _ = _
        rw [H.out, Lx.tokR_cons k hne, List.drop_drop]; simp
      rw [List.length_drop] at hone
      generalize Lx.oneM (s.drop k) = X at *
      obtain ⟨a, n⟩ := X
      simp only at hone hnx Hs
      obtain ⟨o1, o2, o3, o4⟩ := hone
      have i0' : (0 : Int) ≤ (k : Int) := by omega
      have i1 : (k : Int) < (s.length : Int) := by omega
      clear hne H o3 o4
      go_wp2_with fail
      refine hnx.mono ?_
      clear hnx
      rintro e w2 ⟨rfl, hb2⟩
      have hb02 := hb.trans (hb2.mono hbs)
      have hbs2 := hb02.size
      have hown2 := own_of_block hown fun b hbk => hb2.block b (hown.lt b hbk).2
      obtain ⟨Av, cv, rfl⟩ := own_form hown2
      have hoA := (hown2.alloc (.cells #[.int .i64 a, .int .i64 k, .int .i64 n] 42)).alloc (.cells #[.int .i64 a, .int .i64 k, .int .i64 n] 42)
      have hbA : Below w.heap.size w ((w2.alloc (.cells #[.int .i64 a, .int .i64 k, .int .i64 n] 42)).alloc (.cells #[.int .i64 a, .int .i64 k, .int .i64 n] 42)) := (hb02.alloc hbs2 _).alloc (by simp; omega) _
      have hBT : Blk ((w2.alloc (.cells #[.int .i64 a, .int .i64 k, .int .i64 n] 42)).alloc (.cells #[.int .i64 a, .int .i64 k, .int .i64 n] 42)) w2.heap.size 42 #[.int .i64 a, .int .i64 k, .int .i64 n] := (Blk.new w2 _ _).alloc _
      have hne2 : some w2.heap.size ≠ (Value.slice Av done.length cv).ownBlock := fun e => by have := (hown2.lt _ e.symm).2; omega
      have hBN : ((w2.alloc (.cells #[.int .i64 a, .int .i64 k, .int .i64 n] 42)).alloc (.cells #[.int .i64 a, .int .i64 k, .int .i64 n] 42)).heap[w2.heap.size + 1]? = some (.cells #[.int .i64 a, .int .i64 k, .int .i64 n] 42 (0, 0)) := by
        have := heap_alloc_new (w2.alloc (.cells #[.int .i64 a, .int .i64 k, .int .i64 n] 42)) (.cells #[.int .i64 a, .int .i64 k, .int .i64 n] 42)
        simpa using this
      clear hown hb hbs hb2
      go_wp2_with (at_builtin; refine wpList_append_lies _ rfl _ _ 34 rfl w.heap.size 42 i0 _ 3 24 Tryz.underlying34 ji jz0 jz1 jz2 rfl (by omega) (.slice Av done.length cv) done.length (tksC done) rfl hoA ⟨w2.heap.size + 1, 0, none⟩ 1 1 [.int .i64 a, .int .i64 k, .int .i64 n] rfl rfl (World.news_of_block (cs := #[.int .i64 a, .int .i64 k, .int .i64 n]) (t := 42) (fr := (0, 0)) hBN) (by simp [Value.oneCell']) (by omega) (by unfold maxLen; omega) (by omega) (by simp; omega) _ rfl ?_; intro gg cap' w3 hown3 hgrow hat hlt3; have hB3 := hBT.grown hgrow hne2; have c2 := hB3.cell 2; simp at c2)
      go_roundw
      case rel => exact ⟨k + n, done ++ [(a, k, n)], by go_num, by omega, by simp; omega, by rw [tksC_snoc, List.length_append]; exact hown3, hbA.grown hgrow (by simp; omega) (fun g hg => (hown2.lt g hg).1), Hs.out⟩
      case measure => simp [intOf]; omega
    · obtain rfl : k = s.length := by omega
      have hRd : Hid (R = done) := by show _ = _; rw [H.out, List.drop_length, Lx.tokR_nil, List.append_nil]
      obtain ⟨Av, cv, rfl, hle, hvn⟩ := own_cap hown
      clear H
      go_wp2_with fail
      refine (tclip_walk Av done.length cv _ hle hvn).mono ?_
      rintro e w' ⟨rfl, rfl⟩
      go_wp2_with fail
      go_ret
      rw [hRd.out]
      exact ⟨Av, rfl, ⟨cv, hown⟩, hb⟩
theorem tokens_walk (s : Bs) (m : Int) (w : World) (hM : MaxL w m) (hT : T8 w) (hW : WordsIs w) (hl : s.length ≤ 8388608) :
    Calls Tryz.prog 17 #[.string ⟨s.toArray⟩] w fun e w' => ∃ A c, e = .returned (.slice A (Lx.tokR 0 s).length c) ∧ Rd w' w'.heap.size 3 A (Lx.tokR 0 s).length (tksC (Lx.tokR 0 s)) ∧ Below w.heap.size w w' :=
  (tokens_walkO s m w hM hT hW hl).mono fun _ _ ⟨A, he, ⟨_, hown⟩, hb⟩ => ⟨A, _, he, Rd.of_own hown, hb⟩
end Go.Proofs.YtgpjcjnimheglaaGreatDoor
