/-
  THE WALK of the law EditApplies.
-/
import Derived.Test.YtffcfnnbdmihaaaDoorRPlain
import Derived.Test.YtffcfnnbdmihaaaDoorEditPlain
import Derived.Test.YtffcfnnbdmihaaaDoorDoes
import Derived.Test.YtffcfnnbdmihaaaDoorTold
import Derived.Test.YtffcfnnbdmihaaaDoorApply
namespace Go.Proofs.YtffcfnnbdmihaaaDoor
open Go.RowKit

theorem fault_lt (n : Int) (l : List Sp) : fault n l = 0 ∨ fault n l = 1 ∨ fault n l = 2 := by
  rcases fault_cases n l with h | h <;> omega

set_option maxHeartbeats 1000000 in
set_option maxRecDepth 100000 in
theorem editApplies_bad (s : ByteArray) (n : Int) (A : Option Addr) (c : Nat) (l : List Sp) (w : World) (hg : ErrT w) (hr : Rd w w.heap.size 3 A l.length (spCells l))
    (hbk : s.size + (l.length + spBytes l) ≤ 1048576) (hbad : fault s.size l = 1 ∨ fault s.size l = 2) :
    Calls Tryd.prog 7 #[.string s, .int .i64 n, .slice A l.length c] w fun e w' => e = .returned (.bool true) ∧ Below w.heap.size w w' := by
  have Hbad0 := Lib.hid hbad
  have HF : Hid (∃ f, fault n l = f) := ⟨_, rfl⟩
  clear hbad
  go_enter Tryd.func7, Tryd.ntmps7
  go_wp2_with fail
  refine (spans_walk _ _ _ _ hr (by omega)).mono ?_
  rintro e w1 ⟨v1, rfl, ho1, hb1⟩
  obtain ⟨A1, cap1, rfl⟩ := own_form ho1
  have hR1 := Rd.of_own ho1
  clear ho1
  go_wp2_with fail
  refine (fault_walk n _ _ _ _ ((hr.below hb1).more hb1.size) (by omega)).mono ?_
  rintro e w2 ⟨rfl, hb2⟩
  have hb02 := hb1.trans (hb2.mono hb1.size)
  have hR2 := (hR1.below hb2).more hb2.size
  obtain ⟨f, hf⟩ := HF.out
  rw [hf]
  have Hf := Lib.hid hf
  clear hf
  go_wp2_with fail
  refine (rfault_walk n _ _ _ _ hR2 (by omega)).mono ?_
  rw [Hf.out]
  rintro e w3 ⟨rfl, hb3⟩
  have hb03 := hb02.trans (hb3.mono hb02.size)
  have hR3 := (hR2.below hb3).more hb3.size
  go_wp2_with fail
  refine (error_yes f f _ (hg.size hb03) rfl).mono ?_
  rintro e w4 ⟨rfl, hb4⟩
  have hb04 := hb03.trans (hb4.mono hb03.size)
  have hR4 := (hR3.below hb4).more hb4.size
  rcases Hbad0.out with hbad | hbad
  all_goals
    have Hbad := Lib.hid hbad
    clear hbad
    go_wp2_with fail
    refine (apply_bad s _ _ _ _ ((hr.below hb04).more hb04.size) (by omega) (by rw [Hbad.out]; omega)).mono ?_
    rw [Hbad.out]
    rintro e w5 ⟨rfl, hb5⟩
    have hb05 := hb04.trans (hb5.mono hb04.size)
    have hR5 := (hR4.below hb5).more hb5.size
    go_wp2_with fail
    refine (rapply_bad s _ _ _ _ hR5 (by omega) (by rw [Hbad.out]; omega)).mono ?_
    rw [Hbad.out]
    rintro e w6 ⟨rfl, hb6⟩
    have hb06 := hb05.trans (hb6.mono hb05.size)
    go_wp2_with fail
    refine (error_yes _ _ _ (hg.size hb06) rfl).mono ?_
    rintro e w7 ⟨rfl, hb7⟩
    have hb07 := hb06.trans (hb7.mono hb06.size)
    go_wp2_with fail
    refine (editPlain_bad s.size _ _ _ _ ((hr.below hb07).more hb07.size) (by omega) (by rw [Hbad.out]; omega)).mono ?_
    rw [Hbad.out]
    rintro e w8 ⟨rfl, hb8⟩
    have hb08 := hb07.trans (hb8.mono hb07.size)
    go_wp2_with fail
    refine (error_yes _ _ _ (hg.size hb08) rfl).mono ?_
    rintro e w9 ⟨rfl, hb9⟩
    go_wp2
    go_ret
    exact ⟨rfl, hb08.trans (hb9.mono hb08.size)⟩

set_option maxHeartbeats 1000000 in
set_option maxRecDepth 100000 in
theorem editApplies_ok (s : ByteArray) (n : Int) (A : Option Addr) (c : Nat) (l : List Sp) (w : World) (hg : ErrT w) (hr : Rd w w.heap.size 3 A l.length (spCells l))
    (hbk : s.size + (l.length + spBytes l) ≤ 1048576) (hok : fault s.size l = 0) :
    Calls Tryd.prog 7 #[.string s, .int .i64 n, .slice A l.length c] w fun e w' => e = .returned (.bool true) ∧ Below w.heap.size w w' := by
  have Hok := Lib.hid hok
  have HF : Hid (∃ f, fault n l = f) := ⟨_, rfl⟩
  clear hok
  go_enter Tryd.func7, Tryd.ntmps7
  go_wp2_with fail
  refine (spans_walk _ _ _ _ hr (by omega)).mono ?_
  rintro e w1 ⟨v1, rfl, ho1, hb1⟩
  obtain ⟨A1, cap1, rfl⟩ := own_form ho1
  have hR1 := Rd.of_own ho1
  clear ho1
  go_wp2_with fail
  refine (fault_walk n _ _ _ _ ((hr.below hb1).more hb1.size) (by omega)).mono ?_
  rintro e w2 ⟨rfl, hb2⟩
  have hb02 := hb1.trans (hb2.mono hb1.size)
  have hR2 := (hR1.below hb2).more hb2.size
  obtain ⟨f, hf⟩ := HF.out
  rw [hf]
  have Hf := Lib.hid hf
  clear hf
  go_wp2_with fail
  refine (rfault_walk n _ _ _ _ hR2 (by omega)).mono ?_
  rw [Hf.out]
  rintro e w3 ⟨rfl, hb3⟩
  have hb03 := hb02.trans (hb3.mono hb02.size)
  have hR3 := (hR2.below hb3).more hb3.size
  go_wp2_with fail
  refine (error_yes f f _ (hg.size hb03) rfl).mono ?_
  rintro e w4 ⟨rfl, hb4⟩
  have hb04 := hb03.trans (hb4.mono hb03.size)
  have hR4 := (hR3.below hb4).more hb4.size
  go_wp2_with fail
  refine (apply_ok s _ _ _ _ ((hr.below hb04).more hb04.size) (by omega) (by omega) (by omega) Hok.out).mono ?_
  rintro e w5 ⟨rfl, hb5⟩
  have hb05 := hb04.trans (hb5.mono hb04.size)
  have hR5 := (hR4.below hb5).more hb5.size
  generalize hsa : (⟨(applyL s.data.toList l).toArray⟩ : ByteArray) = sa
  have Hsa := Lib.hid hsa
  clear hsa
  go_wp2_with fail
  refine (rapply_ok s _ _ _ _ hR5 (by omega) (by omega) (by omega) Hok.out).mono ?_
  rw [Hsa.out]
  rintro e w6 ⟨rfl, hb6⟩
  have hb06 := hb05.trans (hb6.mono hb05.size)
  have hR6 := (hR5.below hb6).more hb6.size
  go_wp2_with fail
  refine (error_yes 0 0 _ (hg.size hb06) rfl).mono ?_
  rintro e w7 ⟨rfl, hb7⟩
  have hb07 := hb06.trans (hb7.mono hb06.size)
  have hR7 := (hR6.below hb7).more hb7.size
  go_wp2_with fail
  refine (editPlain_ok s.size _ _ _ _ ((hr.below hb07).more hb07.size) (by omega) Hok.out).mono ?_
  rintro e w8 ⟨v8, rfl, ho8, hb8⟩
  obtain ⟨A8, cap8, rfl⟩ := own_form ho8
  have hP8 := Rd.of_own ho8
  clear ho8
  have hb08 := hb07.trans (hb8.mono hb07.size)
  have hR8 := (hR7.below hb8).more hb8.size
  have hpl := (plainL_le l).1
  go_wp2_with fail
  refine (error_yes 0 0 _ (hg.size hb08) rfl).mono ?_
  rintro e w9 ⟨rfl, hb9⟩
  have hb09 := hb08.trans (hb9.mono hb08.size)
  have hR9 := (hR8.below hb9).more hb9.size
  have hP9 := (hP8.below hb9).more hb9.size
  go_wp2_with fail
  refine (means_walk s.size _ _ _ _ hR9 (by omega) (by omega) (by omega) (fault_zero Hok.out).2).mono ?_
  rintro e w10 ⟨v10, rfl, hE10, hb10⟩
  have hb010 := hb09.trans (hb10.mono hb09.size)
  have hP10 := (hP9.below hb10).more hb10.size
  obtain ⟨g1, g2, rfl, hg1, hg2, h71, h72⟩ := hE10
  have hE10 : EAt w10 w10.heap.size (EV s.size g1 g2) s.size (inB l) (outB l) := ⟨g1, g2, rfl, hg1, hg2, h71, h72⟩
  clear h71 h72
  unfold EV
  go_wp2_with fail
  have hb11 : Below w10.heap.size w10 (w10.alloc (.cells #[.int .i64 s.size, .slice (some ⟨g1, 0, none⟩) s.size s.size, .slice (some ⟨g2, 0, none⟩) (s.size + 1) (s.size + 1)] 62)) := (Below.refl _ _).alloc (Nat.le_refl _) _
  generalize (w10.alloc (.cells #[.int .i64 s.size, .slice (some ⟨g1, 0, none⟩) s.size s.size, .slice (some ⟨g2, 0, none⟩) (s.size + 1) (s.size + 1)] 62)) = w11 at *
  have hb011 := hb010.trans (hb11.mono hb010.size)
  have hP11 := (hP10.below hb11).more hb11.size
  have HAt := Lib.hid (At.start (fault_zero Hok.out).2)
  refine (rplain_walk (EV s.size g1 g2) s.size (inB l) (outB l) (plainL l) _ ((hE10.below hb11).more hb11.size) HAt.out (by omega) (by omega)).mono ?_
  clear HAt
  rintro e w12 ⟨v12, rfl, ho12, hb12⟩
  obtain ⟨A12, cap12, rfl⟩ := own_form ho12
  have hQ12 := Rd.of_own ho12
  clear ho12 hE10
  have hb012 := hb011.trans (hb12.mono hb011.size)
  have hP12 := (hP11.below hb12).more hb12.size
  generalize plainL l = pl at *
  go_wp2_with fail
  refine (sameSpans_yes _ _ _ _ pl _ hP12 hQ12 (by omega)).mono ?_
  rintro e w13 ⟨rfl, hb13⟩
  go_wp2_with fail
  go_ret
  exact ⟨rfl, hb012.trans (hb13.mono hb012.size)⟩

theorem editApplies_walk (s : ByteArray) (n : Int) (A : Option Addr) (c : Nat) (l : List Sp) (w : World) (hg : ErrT w) (hr : Rd w w.heap.size 3 A l.length (spCells l))
    (hbk : s.size + (l.length + spBytes l) ≤ 1048576) :
    Calls Tryd.prog 7 #[.string s, .int .i64 n, .slice A l.length c] w fun e w' => e = .returned (.bool true) ∧ Below w.heap.size w w' := by
  rcases fault_cases s.size l with h | h
  · exact editApplies_bad s n A c l w hg hr hbk h
  · exact editApplies_ok s n A c l w hg hr hbk h
end Go.Proofs.YtffcfnnbdmihaaaDoor
