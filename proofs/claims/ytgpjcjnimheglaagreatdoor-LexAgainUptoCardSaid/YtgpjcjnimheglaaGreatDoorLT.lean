/-
  THE WALK of the law LexTiles.
-/
import Derived.Test.YtgpjcjnimheglaaGreatDoorLK
namespace Go.Proofs.YtgpjcjnimheglaaGreatDoor
open Go.RowKit

theorem Rd.tk {w : World} {B : Nat} {A : Option Addr} {l : List Tk} {k : Nat} (h : Rd w B 3 A l.length (tksC l)) (hk : k < l.length) :
    ∃ b o, A = some ⟨b, o, none⟩ ∧ b < B ∧ w.cell? ⟨b, o + k * 3, none⟩ = some (.int .i64 l[k].1) ∧ w.cell? ⟨b, o + k * 3 + 1, none⟩ = some (.int .i64 l[k].2.1) ∧ w.cell? ⟨b, o + k * 3 + 2, none⟩ = some (.int .i64 l[k].2.2) := by
  obtain ⟨b, o, e, hb, hc⟩ := h.2 (by omega)
  refine ⟨b, o, e, hb, ?_, ?_, ?_⟩
  · have := hc (k * 3 + 0) _ (tksC_get l k 0 (by omega) hk); simpa [Nat.add_assoc] using this
  · have := hc (k * 3 + 1) _ (tksC_get l k 1 (by omega) hk); simpa [Nat.add_assoc] using this
  · have := hc (k * 3 + 2) _ (tksC_get l k 2 (by omega) hk); simpa [Nat.add_assoc] using this

theorem Lx.tokR_len : ∀ (n a : Nat) (l : List UInt8), l.length ≤ n → (Lx.tokR a l).length ≤ l.length
  | 0, a, l, h => by
    obtain rfl : l = [] := List.eq_nil_of_length_eq_zero (by omega)
    rw [Lx.tokR_nil]; exact Nat.le_refl _
  | n + 1, a, l, h => by
    by_cases hne : l = []
    · subst hne; rw [Lx.tokR_nil]; exact Nat.le_refl _
    · have h1 := Lx.one_le l hne
      rw [Lx.tokR_cons a hne, List.length_cons]
      have := Lx.tokR_len n (a + (Lx.oneM l).2) (l.drop (Lx.oneM l).2) (by rw [List.length_drop]; omega)
      rw [List.length_drop] at this
      omega

end Go.Proofs.YtgpjcjnimheglaaGreatDoor
