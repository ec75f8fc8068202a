/-
  UNDO at the first state: no.
-/
import Derived.Test.YtffcfnnbdmihaaaDoorRefH
import Derived.StillTailTactics
namespace Go.Proofs.YtffcfnnbdmihaaaDoor.hn
open Go.RowKit
variable {N : Nat → Prop}
set_option maxRecDepth 100000 in
theorem undo_no (base h : Nat) (l : List HV) (a : Nat) (w : World) (H : HistAt N w base h l a) (x : HV) (hx : l[a]? = some x) (n : Int) (hf : x.fr = n) (hn : n < 0) :
    Calls Tryd.prog 42 #[.pointer (some ⟨h, 0, none⟩)] w fun e w' => e = .returned (.bool false) ∧ Below w.heap.size w w' := by
  have H'' : HistAt N w.drew base h l a := H
  obtain ⟨g, cap, hb, hB, ho, hnx, hp, ha, hN⟩ := H
  have c0 := hb.cell 0
  have c1 := hb.cell 1
  obtain rfl : l[a] = x := by rw [List.getElem?_eq_getElem ha] at hx; exact Option.some.inj hx
  have c2 := own_cell ho (a * 3 + 1) (.int .i64 n) (by rw [hvCells_get l a 1 (by omega) ha, ← hf]; rfl)
  clear hx
  simp at c0 c1

  have i1 : (0 : Int) ≤ (a : Int) := by omega
  have i2 : (a : Int) < (l.length : Int) := by omega
  clear hf
  go_enter Tryd.func42, Tryd.ntmps42
  go_wp2
  go_still_tail 12, (by kernel_rfl)
  change wpList _ _ _ _ _ w.drew
  go_wp2_with fail
  refine (go_no base h l a _ n H'' (.inl hn)).mono ?_
  rintro e w2 ⟨rfl, hb2⟩
  go_wp2
  go_ret
  exact ⟨rfl, hb2 ▸ (Below.refl _ _).drew⟩
end Go.Proofs.YtffcfnnbdmihaaaDoor.hn
