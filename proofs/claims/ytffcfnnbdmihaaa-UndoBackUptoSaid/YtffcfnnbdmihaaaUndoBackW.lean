/-
  THE WALK of the law UndoBack.
-/
import Derived.Test.YtffcfnnbdmihaaaDo
namespace Go.Proofs.Ytffcfnnbdmihaaa
open Go.RowKit

set_option maxHeartbeats 1000000 in
theorem undoBack_walk (s : ByteArray) (A1 : Option Addr) (c1 : Nat) (a : List Sp) (A2 : Option Addr) (c2 : Nat) (b : List Sp) (w : World) (hr1 : Rd w w.heap.size 3 A1 a.length (spCells a)) (hr2 : Rd w w.heap.size 3 A2 b.length (spCells b))
    (hbk : s.size + (a.length + spBytes a) + (b.length + spBytes b) ≤ 1048576) :
    Calls Try.prog 4 #[.string s, .slice A1 a.length c1, .slice A2 b.length c2] w fun e w' => e = .returned (.bool true) ∧ Below w.heap.size w w' := by
  go_enter Try.func4, Try.ntmps4
  go_wp2_with fail
  refine (new_walk s w).mono ?_
  rintro e w1 ⟨h, rfl, H1, hb1⟩
  go_wp2_with fail
  rcases fault_cases s.size a with hbad | hok
  · have hv : ∃ v : Int, errV (fault s.size a) = .iface 53 (.int .i64 v) := by rcases hbad with h | h <;> rw [h] <;> exact ⟨_, rfl⟩
    obtain ⟨v, hv⟩ := hv
    have Hv := Lib.hid hv
    have Hbad := Lib.hid hbad
    clear hv hbad
    refine (do_bad _ h _ 0 _ H1 _ rfl _ _ _ ((hr1.below hb1).more hb1.size) (by omega) Hbad.out).mono ?_
    rw [Hv.out]
    rintro e w2 ⟨rfl, hb2⟩
    go_wp2
    go_ret
    exact ⟨rfl, hb1.trans (hb2.mono hb1.size)⟩
  · have Hok := Lib.hid hok
    clear hok
    refine (do_ok _ h _ 0 _ H1 _ rfl _ _ _ ((hr1.below hb1).more hb1.size) (by omega) hb1.size (by simp) (by simp; omega) (by omega) (by simp) Hok.out).mono ?_
    rintro e w2 ⟨rfl, ⟨v1, H2⟩, hb2⟩
    have hlen := applyL_len (text := s.data.toList) (l := a) (by rw [dlen]; exact Hok.out)
    rw [dlen] at hlen
    generalize ht1 : (⟨(applyL s.data.toList a).toArray⟩ : ByteArray) = t1 at *
    have ht1s : t1.size ≤ s.size + spBytes a := by rw [← ht1]; exact hlen
    have Ht1 := Lib.hid ht1
    clear ht1
    replace H2 : HistAt w2 w.heap.size h [⟨s, -1, [1], v1⟩, ⟨t1, 0, [], .slice none 0 0⟩] 1 := H2
    have hb12 := hb1.trans hb2
    go_wp2_with fail
    refine (text_walk _ h _ 1 _ H2 _ rfl).mono ?_
    rintro e w3 ⟨rfl, n3, rfl⟩
    have hr3 : Rd (w2.drewN n3) (w2.drewN n3).heap.size 3 A2 b.length (spCells b) := (hr2.below hb12).more hb12.size
    have H3 : HistAt (w2.drewN n3) w.heap.size h [⟨s, -1, [1], v1⟩, ⟨t1, 0, [], .slice none 0 0⟩] 1 := H2
    have hb13 : Below w.heap.size w (w2.drewN n3) := below_drewN hb12 n3
    go_wp2_with fail
    rcases fault_cases t1.size b with hbad | hok
    · have hv : ∃ v : Int, errV (fault t1.size b) = .iface 53 (.int .i64 v) := by rcases hbad with h | h <;> rw [h] <;> exact ⟨_, rfl⟩
      obtain ⟨v, hv⟩ := hv
      have Hv := Lib.hid hv
      have Hbad := Lib.hid hbad
      clear hv hbad
      refine (do_bad _ h _ 1 _ H3 _ rfl _ _ _ hr3 (by omega) Hbad.out).mono ?_
      rw [Hv.out]
      rintro e w4 ⟨rfl, hb4⟩
      go_wp2
      go_ret
      exact ⟨rfl, hb13.trans (hb4.mono hb13.size)⟩
    · have Hok2 := Lib.hid hok
      clear hok
      refine (do_ok _ h _ 1 _ H3 _ rfl _ _ _ hr3 (by omega) hb13.size (by simp) (by simp; omega) (by omega) (by simp) Hok2.out).mono ?_
      rintro e w4 ⟨rfl, ⟨v2, H4⟩, hb4⟩
      generalize ht2 : (⟨(applyL t1.data.toList b).toArray⟩ : ByteArray) = t2 at *
      clear ht2
      replace H4 : HistAt w4 w.heap.size h [⟨s, -1, [1], v1⟩, ⟨t1, 0, [2], v2⟩, ⟨t2, 1, [], .slice none 0 0⟩] 2 := H4
      have hb14 := hb13.trans hb4
      clear H1 H2 H3
      go_wp2_with fail
      refine (text_walk _ h _ 2 _ H4 _ rfl).mono ?_
      rintro e w5 ⟨rfl, n5, rfl⟩
      have H5 := H4.drewN n5
      have hb15 : Below w.heap.size w (w4.drewN n5) := below_drewN hb14 n5
      go_wp2_with fail
      refine (undo_walk _ h _ 2 _ H5 _ rfl 1 rfl (by simp)).mono ?_
      rintro e w6 ⟨rfl, H6, hb6⟩
      have hb16 := hb15.trans hb6
      go_wp2_with fail
      refine (text_walk _ h _ 1 _ H6 _ rfl).mono ?_
      rintro e w7 ⟨rfl, n7, rfl⟩
      have H7 := H6.drewN n7
      have hb17 : Below w.heap.size w (w6.drewN n7) := below_drewN hb16 n7
      go_wp2_with fail
      refine (undo_walk _ h _ 1 _ H7 _ rfl 0 rfl (by simp)).mono ?_
      rintro e w8 ⟨rfl, H8, hb8⟩
      have hb18 := hb17.trans hb8
      go_wp2_with fail
      refine (text_walk _ h _ 0 _ H8 _ rfl).mono ?_
      rintro e w9 ⟨rfl, n9, rfl⟩
      have H9 := H8.drewN n9
      have hb19 : Below w.heap.size w (w8.drewN n9) := below_drewN hb18 n9
      go_wp2_with fail
      refine (go_yes _ h _ 0 _ 2 H9 (by simp)).mono ?_
      rintro e w10 ⟨rfl, H10, hb10⟩
      have hb20 := hb19.trans hb10
      go_wp2_with fail
      refine (text_walk _ h _ 2 _ H10 _ rfl).mono ?_
      rintro e w11 ⟨rfl, n11, rfl⟩
      go_wp2
      go_ret
      exact ⟨by simp, below_drewN hb20 n11⟩
end Go.Proofs.Ytffcfnnbdmihaaa
