/-
  THE WALK of the law EditInverts.
-/
import Derived.Test.YtffcfnnbdmihaaaDoorDoes
import Derived.Test.YtffcfnnbdmihaaaDoorTold
import Derived.Test.YtffcfnnbdmihaaaDoorInvert
namespace Go.Proofs.YtffcfnnbdmihaaaDoor
open Go.RowKit

set_option maxHeartbeats 1000000 in
set_option maxRecDepth 100000 in
theorem editInverts_walk (s : ByteArray) (A : Option Addr) (c : Nat) (l : List Sp) (w : World) (hg : ErrT w) (hr : Rd w w.heap.size 3 A l.length (spCells l))
    (hbk : s.size + (l.length + spBytes l) ≤ 1048576) :
    Calls Tryd.prog 5 #[.string s, .slice A l.length c] w fun e w' => e = .returned (.bool true) ∧ Below w.heap.size w w' := by
  go_enter Tryd.func5, Tryd.ntmps5
  go_wp2_with fail
  refine (spans_walk _ _ _ _ hr (by omega)).mono ?_
  rintro e w1 ⟨v1, rfl, ho1, hb1⟩
  obtain ⟨A1, cap1, rfl⟩ := own_form ho1
  have hR1 := Rd.of_own ho1
  clear ho1
  go_wp2_with fail
  rcases fault_cases s.size l with hbad | hok
  · rcases hbad with hbad | hbad
    all_goals
      have Hbad := Lib.hid hbad
      clear hbad
      refine (rapply_bad s _ _ _ _ hR1 (by omega) (by rw [Hbad.out]; omega)).mono ?_
      rw [Hbad.out]
      rintro e w2 ⟨rfl, hb2⟩
      have hb12 := hb1.trans (hb2.mono hb1.size)
      go_wp2_with fail
      refine (invert_bad s _ _ _ _ ((hr.below hb12).more hb12.size) (by omega) (by rw [Hbad.out]; omega)).mono ?_
      rw [Hbad.out]
      rintro e w3 ⟨rfl, hb3⟩
      have hb13 := hb12.trans (hb3.mono hb12.size)
      go_wp2_with fail
      refine (error_yes _ _ _ (hg.size hb13) rfl).mono ?_
      rintro e w4 ⟨rfl, hb4⟩
      go_wp2
      go_ret
      exact ⟨rfl, hb13.trans (hb4.mono hb13.size)⟩
  have Hok := Lib.hid hok
  clear hok
  have hci := (fault_zero Hok.out).2
  have hl1 := applyL_len (text := s.data.toList) (l := l) (by rw [dlen]; exact Hok.out)
  rw [dlen] at hl1
  have hl2 := invL_bytes s.data.toList (d := 0) (Int.le_refl 0) hci
  have hl3 := hci.last
  have Hinv := Lib.hid (inv_ok (text := s.data.toList) (l := l) (by rw [dlen]; exact Hok.out))
  have hl4 := invL_len s.data.toList 0 l
  clear hci
  refine (rapply_ok s _ _ _ _ hR1 (by omega) (by omega) (by omega) Hok.out).mono ?_
  rintro e w2 ⟨rfl, hb2⟩
  have hb12 := hb1.trans (hb2.mono hb1.size)
  have hfx : fault (⟨(applyL s.data.toList l).toArray⟩ : ByteArray).size (invL s.data.toList 0 l) = 0 := by rw [mk_size]; exact Hinv.out.1
  have hax : applyL (⟨(applyL s.data.toList l).toArray⟩ : ByteArray).data.toList (invL s.data.toList 0 l) = s.data.toList := Hinv.out.2
  have hsz : (⟨(applyL s.data.toList l).toArray⟩ : ByteArray).size ≤ 1048576 := by rw [mk_size]; omega
  generalize (⟨(applyL s.data.toList l).toArray⟩ : ByteArray) = sa at *
  have Hfx := Lib.hid hfx
  have Hax := Lib.hid hax
  clear hfx hax hl1 Hinv
  go_wp2_with fail
  refine (invert_ok s _ _ _ _ ((hr.below hb12).more hb12.size) (by omega) (by omega) (by omega) Hok.out).mono ?_
  rintro e w3 ⟨v3, rfl, ho3, hb3⟩
  have hb13 := hb12.trans (hb3.mono hb12.size)
  obtain ⟨A3, cap3, rfl⟩ := own_form ho3
  have hR3 := Rd.of_own ho3
  clear ho3
  go_wp2_with fail
  refine (error_yes 0 0 _ (hg.size hb13) rfl).mono ?_
  rintro e w4 ⟨rfl, hb4⟩
  have hb14 := hb13.trans (hb4.mono hb13.size)
  have hR4 := (hR3.below hb4).more hb4.size
  go_wp2_with fail
  have hl5 : l.length = (invL s.data.toList 0 l).length := hl4.symm
  rw [hl5] at hR4 ⊢
  have hi1 : (invL s.data.toList 0 l).length ≤ 1048576 := by omega
  have hi2 : spBytes (invL s.data.toList 0 l) ≤ 1048576 := by omega
  clear hl2 hl3 hl4 hl5
  generalize invL s.data.toList 0 l = il at *
  refine (spans_walk _ _ _ _ hR4 (by omega)).mono ?_
  rintro e w5 ⟨v5, rfl, ho5, hb5⟩
  have hb15 := hb14.trans (hb5.mono hb14.size)
  obtain ⟨A5, cap5, rfl⟩ := own_form ho5
  have hR5 := Rd.of_own ho5
  clear ho5
  go_wp2_with fail
  refine (rapply_ok sa _ _ _ _ hR5 (by omega) (by omega) (by omega) Hfx.out).mono ?_
  rintro e w6 ⟨rfl, hb6⟩
  have hb16 := hb15.trans (hb6.mono hb15.size)
  rw [Hax.out]
  go_wp2
  go_ret
  exact ⟨by simp, hb16⟩
end Go.Proofs.YtffcfnnbdmihaaaDoor
