/-
  THE WALK of the law LexTiles.
-/
import Derived.Test.YtccljojceoidhaaDoorLK
namespace Go.Proofs.YtccljojceoidhaaDoor
open Go.RowKit

theorem Rd.tk {w : World} {B : Nat} {A : Option Addr} {l : List Tk} {k : Nat} (h : Rd w B 3 A l.length (tksC l)) (hk : k < l.length) :
    ∃ b o, A = some ⟨b, o, none⟩ ∧ b < B ∧ w.cell? ⟨b, o + k * 3, none⟩ = some (.int .i64 l[k].1) ∧ w.cell? ⟨b, o + k * 3 + 1, none⟩ = some (.int .i64 l[k].2.1) ∧ w.cell? ⟨b, o + k * 3 + 2, none⟩ = some (.int .i64 l[k].2.2) := by
  obtain ⟨b, o, e, hb, hc⟩ := h.2 (by omega)
  refine ⟨b, o, e, hb, ?_, ?_, ?_⟩
  · have := hc (k * 3 + 0) _ (tksC_get l k 0 (by omega) hk); simpa [Nat.add_assoc] using this
  · have := hc (k * 3 + 1) _ (tksC_get l k 1 (by omega) hk); simpa [Nat.add_assoc] using this
  · have := hc (k * 3 + 2) _ (tksC_get l k 2 (by omega) hk); simpa [Nat.add_assoc] using this

theorem Lx.tokR_len : ∀ (n a : Nat) (l : List UInt8), l.length ≤ n → (Lx.tokR a l).length ≤ l.length
  | 0, a, l, h => by
    obtain rfl : l = [] := List.eq_nil_of_length_eq_zero (by omega)
    rw [Lx.tokR_nil]; exact Nat.le_refl _
  | n + 1, a, l, h => by
    by_cases hne : l = []
    · subst hne; rw [Lx.tokR_nil]; exact Nat.le_refl _
    · have h1 := Lx.one_le l hne
      rw [Lx.tokR_cons a hne, List.length_cons]
      have := Lx.tokR_len n (a + (Lx.oneM l).2) (l.drop (Lx.oneM l).2) (by rw [List.length_drop]; omega)
      rw [List.length_drop] at this
      omega

set_option maxHeartbeats 2000000 in
set_option maxRecDepth 100000 in
theorem lexTiles_walk (T : ByteArray) (m : Int) (w : World) (hM : MaxL w m) (hT : T8 w) (hW : WordsIs w) (hn : T.size ≤ 1048576) :
    Calls Tryd.prog 8 #[.string T] w fun e w' => e = .returned (.bool true) ∧ Below w.heap.size w w' := by
  obtain ⟨s, rfl⟩ : ∃ s : Bs, T = ⟨s.toArray⟩ := ⟨T.data.toList, (Lib.mk_data T).symm⟩
  have hsl : s.length ≤ 1048576 := by have := mk_size s; omega
  clear hn
  have hk := tokens_walk s m w hM hT hW (by omega)
  generalize hR : Lx.tokR 0 s = R at *
  have hRl : R.length ≤ 1048576 := by rw [← hR]; exact Nat.le_trans (Lx.tokR_len s.length 0 s (Nat.le_refl _)) hsl
  have HR := Lib.hid hR
  clear hR
  go_enter Tryd.func8, Tryd.ntmps8
  go_wp2_with fail
  refine hk.mono ?_
  clear hk
  rintro e w1 ⟨A, c, rfl, hrd, hb1⟩
  go_wp2_with fail
  go_loopw [4, 5] (fun av i wr => ∃ (k a : Nat), i = .int .i64 k ∧ av = .int .i64 a ∧ k ≤ R.length ∧ a ≤ s.length ∧ Below w1.heap.size w1 wr ∧ Hid (R.drop k = Lx.tokR a (s.drop a))) (fun _ i _ => R.length - (intOf i).toNat)
  case atStart => exact ⟨0, 0, rfl, rfl, Nat.zero_le _, Nat.zero_le _, Below.refl _ _, by show _ = _; rw [List.drop_zero, List.drop_zero, HR.out]⟩
  case round =>
    obtain ⟨k, a, rfl, rfl, hk, ha, hb, H⟩ := hrel
    have hbs := hb.size
    by_cases hlt : k < R.length
    · have hne : s.drop a ≠ [] := by
        intro e
        have h2 := H.out
        rw [e, Lx.tokR_nil] at h2
        have := congrArg List.length h2
        rw [List.length_drop] at this
        simp at this
        omega
      have hone := Lx.one_le (s.drop a) hne
      rw [List.length_drop] at hone
      have h2 := H.out
      rw [Lx.tokR_cons a hne, List.drop_eq_getElem_cons hlt, List.drop_drop] at h2
      injection h2 with h3 h4
      obtain ⟨b, o, rfl, hbB, c0, c1, c2⟩ := Rd.tk (hrd.below hb) hlt
      rw [h3] at c0 c1 c2
      have Hn := Lib.hid h4
      generalize Lx.oneM (s.drop a) = X at *
      obtain ⟨kd, n⟩ := X
      simp only at c0 c1 c2 hone Hn
      obtain ⟨o1, o2, o3, o4⟩ := hone
      clear h3 h4 H hne
      have i1 : (0 : Int) ≤ (k : Int) := by omega
      have i2 : (k : Int) < (R.length : Int) := by omega
      have q1 : ¬ (n : Int) < 1 := by omega
      have q2 : ¬ (kd : Int) < 1 := by omega
      have q3 : ¬ (8 : Int) < (kd : Int) := by omega
      go_wp2_with fail
      go_quiet (fail)
      go_wp2_with fail
      go_roundw
      case rel => exact ⟨k + 1, a + n, by go_num, by go_num, by omega, by omega, below_drewN hb _, Hn.out⟩
      case measure => simp [intOf]; omega
    · obtain rfl : k = R.length := by omega
      have hend : a = s.length := by
        have h2 := H.out
        rw [List.drop_length] at h2
        rcases Nat.lt_or_ge a s.length with h | h
        · rw [Lx.tokR_cons a (by intro e; have := congrArg List.length e; simp at this; omega)] at h2
          cases h2
        · omega
      have he2 : ((a : Int) == (s.length : Int)) = true := by rw [hend]; simp
      clear H
      go_wp2_with fail
      go_ret
      refine ⟨?_, hb1.trans (hb.mono hb1.size)⟩
      first | rfl | (simp [hend])
end Go.Proofs.YtccljojceoidhaaDoor
