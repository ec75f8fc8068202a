/-
  WALKS of the document's tokens: Tokens; Tokens of package amanuensissame, of two rows that are the same.
-/
import Derived.Test.YtgpjcjnimheglaaGreatDoorUF
import Derived.Test.YtgpjcjnimheglaaGreatDoorUG
import Derived.Test.YtgpjcjnimheglaaGreatDoorLT
namespace Go.Proofs.YtgpjcjnimheglaaGreatDoor
open Go.RowKit

set_option maxHeartbeats 2000000 in
set_option maxRecDepth 100000 in
theorem rtokens_walk (s : Bs) (w : World) (hl : s.length ≤ 8388608) :
    Calls Tryz.prog 14 #[.string ⟨s.toArray⟩] w fun e w' => ∃ A c, e = .returned (.slice A (Lx.tokR 0 s).length c) ∧ Rd w' w'.heap.size 3 A (Lx.tokR 0 s).length (tksC (Lx.tokR 0 s)) ∧ Below w.heap.size w w' := by
  obtain ⟨i0, ji, jz0, jz1, jz2⟩ := info_parts infoRT
  generalize hR : Lx.tokR 0 s = R
  have HR := Lib.hid hR
  clear hR
  go_enter Tryz.func14, Tryz.ntmps14
  go_wp2_with fail
  go_loopw [3, 4] (fun v i wr => ∃ (k : Nat) (done : List Tk), i = .int .i64 k ∧ k ≤ s.length ∧ done.length ≤ k ∧ wr.ownsRow w.heap.size 85 3 v done.length (tksC done) ∧ Below w.heap.size w wr ∧ Hid (R = done ++ Lx.tokR k (s.drop k))) (fun _ i _ => s.length - (intOf i).toNat)
  case atStart => exact ⟨0, [], rfl, Nat.zero_le _, Nat.le_refl _, World.ownsRow_nil _ _ _ _, Below.refl _ _, by show _ = _; rw [← HR.out]; rfl⟩
  case round =>
    obtain ⟨k, done, rfl, hk, hdl, hown, hb, H⟩ := hrel
    have hbs := hb.size
    by_cases hlt : k < s.length
    · have hne : s.drop k ≠ [] := by intro e; have := congrArg List.length e; simp at this; omega
      have hnx := rone_walk s k wr hlt (by omega)
      have hone := Lx.one_le (s.drop k) hne
      have Hs : Hid (R = (done ++ [((Lx.oneM (s.drop k)).1, k, (Lx.oneM (s.drop k)).2)]) ++ Lx.tokR (k + (Lx.oneM (s.drop k)).2) (s.drop (k + (Lx.oneM (s.drop k)).2))) := by
        show _ = _
        rw [H.out, Lx.tokR_cons k hne, List.drop_drop]; simp
      rw [List.length_drop] at hone
      generalize Lx.oneM (s.drop k) = X at *
      obtain ⟨a, n⟩ := X
      simp only at hone Hs
      have hnx : Calls Tryz.prog 35 _ wr fun e w' => e = .returned (.agg #[.int .i64 a, .int .i64 k, .int .i64 n]) ∧ Below wr.heap.size wr w' := hnx
      obtain ⟨o1, o2, o3, o4⟩ := hone
      have i0' : (0 : Int) ≤ (k : Int) := by omega
      have i1 : (k : Int) < (s.length : Int) := by omega
      clear hne H o3 o4
      go_wp2_with fail
      refine hnx.mono ?_
      clear hnx
      rintro e w2 ⟨rfl, hb2⟩
      have hb02 := hb.trans (hb2.mono hbs)
      have hbs2 := hb02.size
      have hown2 := own_of_block hown fun b hbk => hb2.block b (hown.lt b hbk).2
      obtain ⟨Av, cv, rfl⟩ := own_form hown2
      have hoA := (hown2.alloc (.cells #[.int .i64 a, .int .i64 k, .int .i64 n] 85)).alloc (.cells #[.int .i64 a, .int .i64 k, .int .i64 n] 85)
      have hbA : Below w.heap.size w ((w2.alloc (.cells #[.int .i64 a, .int .i64 k, .int .i64 n] 85)).alloc (.cells #[.int .i64 a, .int .i64 k, .int .i64 n] 85)) := (hb02.alloc hbs2 _).alloc (by simp; omega) _
      have hBT : Blk ((w2.alloc (.cells #[.int .i64 a, .int .i64 k, .int .i64 n] 85)).alloc (.cells #[.int .i64 a, .int .i64 k, .int .i64 n] 85)) w2.heap.size 85 #[.int .i64 a, .int .i64 k, .int .i64 n] := (Blk.new w2 _ _).alloc _
      have hne2 : some w2.heap.size ≠ (Value.slice Av done.length cv).ownBlock := fun e => by have := (hown2.lt _ e.symm).2; omega
      have hBN : ((w2.alloc (.cells #[.int .i64 a, .int .i64 k, .int .i64 n] 85)).alloc (.cells #[.int .i64 a, .int .i64 k, .int .i64 n] 85)).heap[w2.heap.size + 1]? = some (.cells #[.int .i64 a, .int .i64 k, .int .i64 n] 85 (0, 0)) := by
        have := heap_alloc_new (w2.alloc (.cells #[.int .i64 a, .int .i64 k, .int .i64 n] 85)) (.cells #[.int .i64 a, .int .i64 k, .int .i64 n] 85)
        simpa using this
      clear hown hb hbs hb2
      go_wp2_with (at_builtin; refine wpList_append_lies _ rfl _ _ 36 rfl w.heap.size 85 i0 _ 3 24 Tryz.underlying36 ji jz0 jz1 jz2 rfl (by omega) (.slice Av done.length cv) done.length (tksC done) rfl hoA ⟨w2.heap.size + 1, 0, none⟩ 1 1 [.int .i64 a, .int .i64 k, .int .i64 n] rfl rfl (World.news_of_block (cs := #[.int .i64 a, .int .i64 k, .int .i64 n]) (t := 85) (fr := (0, 0)) hBN) (by simp [Value.oneCell']) (by omega) (by unfold maxLen; omega) (by omega) (by simp; omega) _ rfl ?_; intro gg cap' w3 hown3 hgrow hat hlt3; have hB3 := hBT.grown hgrow hne2; have c2 := hB3.cell 2; simp at c2)
      go_roundw
      case rel => exact ⟨k + n, done ++ [(a, k, n)], by go_num, by omega, by simp; omega, by rw [tksC_snoc, List.length_append]; exact hown3, hbA.grown hgrow (by simp; omega) (fun g hg => (hown2.lt g hg).1), Hs.out⟩
      case measure => simp [intOf]; omega
    · obtain rfl : k = s.length := by omega
      have hRd : Hid (R = done) := by show _ = _; rw [H.out, List.drop_length, Lx.tokR_nil, List.append_nil]
      obtain ⟨Av, cv, rfl, hle, hvn⟩ := own_cap hown
      have hrd := Rd.of_own hown
      clear H
      go_wp2_with fail
      go_ret
      rw [hRd.out]
      exact ⟨Av, cv, rfl, hrd, hb⟩

set_option maxHeartbeats 1000000 in
set_option maxRecDepth 100000 in
/-- two rows that are the same -/
theorem sameTks_walk (A A' : Option Addr) (c c' : Nat) (l : List Tk) (w : World) (h1 : Rd w w.heap.size 3 A l.length (tksC l)) (h2 : Rd w w.heap.size 3 A' l.length (tksC l)) (hl : l.length ≤ 4194304) :
    Calls Tryz.prog 15 #[.slice A l.length c, .slice A' l.length c'] w fun e w' => e = .returned (.bool true) ∧ Below w.heap.size w w' := by
  go_enter Tryz.func15, Tryz.ntmps15
  go_wp2
  go_loopw [5] (fun i wr => ∃ k : Nat, k ≤ l.length ∧ i = .int .i64 k ∧ Below w.heap.size w wr) (fun i _ => l.length - (intOf i).toNat)
  case atStart => exact ⟨0, Nat.zero_le _, rfl, Below.refl _ _⟩
  case round =>
    obtain ⟨k, hk, rfl, hb⟩ := hrel
    have hbs := hb.size
    by_cases hlt : k < l.length
    · obtain ⟨b, o, rfl, hbB, c0, c1, c2⟩ := Rd.tk (h1.below hb) hlt
      obtain ⟨b', o', rfl, hbB', d0, d1, d2⟩ := Rd.tk (h2.below hb) hlt
      have i1 : (0 : Int) ≤ (k : Int) := by omega
      have i2 : (k : Int) < (l.length : Int) := by omega
      generalize l[k] = x at *
      obtain ⟨x1, x2, x3⟩ := x
      simp only at c0 c1 c2 d0 d1 d2
      go_wp2
      go_quiet (fail)
      go_wp2
      go_roundw
      case rel => exact ⟨k + 1, by omega, by go_num, below_drewN hb _⟩
      case measure => simp [intOf]; omega
    · obtain rfl : k = l.length := by omega
      go_wp2
      go_ret
      exact ⟨rfl, hb⟩

end Go.Proofs.YtgpjcjnimheglaaGreatDoor
