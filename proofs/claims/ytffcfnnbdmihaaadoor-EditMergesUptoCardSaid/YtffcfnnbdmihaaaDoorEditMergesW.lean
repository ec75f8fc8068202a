/-
  THE WALK of the law EditMerges.
-/
import Derived.Test.YtffcfnnbdmihaaaDoorBoth
import Derived.Test.YtffcfnnbdmihaaaDoorDoes
import Derived.Test.YtffcfnnbdmihaaaDoorTold
import Derived.Test.YtffcfnnbdmihaaaDoorMerge
namespace Go.Proofs.YtffcfnnbdmihaaaDoor
open Go.RowKit

/-- amanuensisref1.Apply, whatever comes of it -/
theorem rapply_any (s : ByteArray) (A : Option Addr) (c : Nat) (l : List Sp) (w : World) (hr : Rd w w.heap.size 3 A l.length (spCells l)) (hl : l.length ≤ 1048576) (hs : s.size ≤ 16777216) (hby : spBytes l ≤ 16777216) :
    Calls Tryd.prog 21 #[.string s, .slice A l.length c] w fun e w' => ∃ S : ByteArray, e = .returned (.tuple #[.string S, .int .i64 (fault s.size l)]) ∧ Hid (fault s.size l = 0 → S = ⟨(applyL s.data.toList l).toArray⟩) ∧ Below w.heap.size w w' := by
  rcases fault_cases s.size l with hbad | hok
  · refine (rapply_bad s A c l w hr hl hbad).mono ?_
    rintro e w' ⟨rfl, hb⟩
    exact ⟨_, rfl, fun h => by omega, hb⟩
  · refine (rapply_ok s A c l w hr hl hs hby hok).mono ?_
    rintro e w' ⟨rfl, hb⟩
    rw [hok]
    exact ⟨_, rfl, fun _ => rfl, hb⟩

set_option maxHeartbeats 1000000 in
set_option maxRecDepth 100000 in
theorem editMerges_bad (s : ByteArray) (A1 : Option Addr) (c1 : Nat) (a : List Sp) (A2 : Option Addr) (c2 : Nat) (b : List Sp) (w : World) (hg : ErrT w) (hr1 : Rd w w.heap.size 3 A1 a.length (spCells a)) (hr2 : Rd w w.heap.size 3 A2 b.length (spCells b))
    (hbk : s.size + (a.length + spBytes a) + (b.length + spBytes b) ≤ 1048576) (hbad : ¬ (fault s.size a = 0 ∧ fault s.size b = 0)) :
    Calls Tryd.prog 8 #[.string s, .slice A1 a.length c1, .slice A2 b.length c2] w fun e w' => e = .returned (.bool true) ∧ Below w.heap.size w w' := by
  obtain ⟨f, hf, hcase⟩ : ∃ f, (f = 1 ∨ f = 2) ∧ (fault s.size a = f ∨ (fault s.size a = 0 ∧ fault s.size b = f)) := by
    rcases fault_cases s.size a with h | h
    · exact ⟨_, h, .inl rfl⟩
    · rcases fault_cases s.size b with h' | h'
      · exact ⟨_, h', .inr ⟨h, rfl⟩⟩
      · exact absurd ⟨h, h'⟩ hbad
  clear hbad
  have Hcase := Lib.hid hcase
  have hc2 : ((fault s.size a : Nat) : Int) = f ∨ (((fault s.size a : Nat) : Int) = 0 ∧ ((fault s.size b : Nat) : Int) = f) := by omega
  clear hcase
  have Hc2 := Lib.hid hc2
  clear hc2
  go_enter Tryd.func8, Tryd.ntmps8
  go_wp2_with fail
  refine (spans_walk _ _ _ _ hr1 (by omega)).mono ?_
  rintro e w1 ⟨v1, rfl, ho1, hb1⟩
  obtain ⟨P1, p1, rfl⟩ := own_form ho1
  have hR1 := Rd.of_own ho1
  clear ho1
  go_wp2_with fail
  refine (spans_walk _ _ _ _ ((hr2.below hb1).more hb1.size) (by omega)).mono ?_
  rintro e w2 ⟨v2, rfl, ho2, hb2⟩
  obtain ⟨P2, p2, rfl⟩ := own_form ho2
  have hR2 := Rd.of_own ho2
  clear ho2
  have hb02 := hb1.trans (hb2.mono hb1.size)
  go_wp2_with fail
  refine (rapply_any s _ _ _ _ ((hR1.below hb2).more hb2.size) (by omega) (by omega) (by omega)).mono ?_
  rintro e w3 ⟨S, rfl, -, hb3⟩
  have hb03 := hb02.trans (hb3.mono hb02.size)
  go_wp2_with fail
  refine (rapply_any s _ _ _ _ ((hR2.below hb3).more hb3.size) (by omega) (by omega) (by omega)).mono ?_
  rintro e w4 ⟨T, rfl, -, hb4⟩
  have hb04 := hb03.trans (hb4.mono hb03.size)
  generalize ((fault s.size a : Nat) : Int) = fa at *
  generalize ((fault s.size b : Nat) : Int) = fb at *
  have hm := merge_bad s.size A1 c1 a A2 c2 b w4 ((hr1.below hb04).more hb04.size) ((hr2.below hb04).more hb04.size) (by omega) (by omega) f hf Hcase.out
  have Hm := Lib.hid hm
  clear hm
  rcases Hc2.out with h | ⟨h, h'⟩
  · subst h
    have d1 : ((f : Int) == 0) = false := by simp; omega
    rcases hf with rfl | rfl
    all_goals
      go_wp2_with fail
      refine Hm.out.mono ?_
      rintro e w5 ⟨rfl, hb5⟩
      have hb05 := hb04.trans (hb5.mono hb04.size)
      go_wp2_with fail
      refine (error_yes _ _ _ (hg.size hb05) rfl).mono ?_
      rintro e w6 ⟨rfl, hb6⟩
      go_wp2
      go_ret
      exact ⟨rfl, hb05.trans (hb6.mono hb05.size)⟩
  · subst h
    subst h'
    rcases hf with rfl | rfl
    all_goals
      go_wp2_with fail
      refine Hm.out.mono ?_
      rintro e w5 ⟨rfl, hb5⟩
      have hb05 := hb04.trans (hb5.mono hb04.size)
      go_wp2_with fail
      refine (error_yes _ _ _ (hg.size hb05) rfl).mono ?_
      rintro e w6 ⟨rfl, hb6⟩
      go_wp2
      go_ret
      exact ⟨rfl, hb05.trans (hb6.mono hb05.size)⟩

set_option maxHeartbeats 2000000 in
set_option maxRecDepth 100000 in
theorem editMerges_ok (s : ByteArray) (A1 : Option Addr) (c1 : Nat) (a : List Sp) (A2 : Option Addr) (c2 : Nat) (b : List Sp) (w : World) (hg : ErrT w) (hr1 : Rd w w.heap.size 3 A1 a.length (spCells a)) (hr2 : Rd w w.heap.size 3 A2 b.length (spCells b))
    (hbk : s.size + (a.length + spBytes a) + (b.length + spBytes b) ≤ 1048576) (h1 : fault s.size a = 0) (h2 : fault s.size b = 0) :
    Calls Tryd.prog 8 #[.string s, .slice A1 a.length c1, .slice A2 b.length c2] w fun e w' => e = .returned (.bool true) ∧ Below w.heap.size w w' := by
  have Hok := Lib.hid h1
  have Hok2 := Lib.hid h2
  clear h1 h2
  go_enter Tryd.func8, Tryd.ntmps8
  go_wp2_with fail
  refine (spans_walk _ _ _ _ hr1 (by omega)).mono ?_
  rintro e w1 ⟨v1, rfl, ho1, hb1⟩
  obtain ⟨P1, p1, rfl⟩ := own_form ho1
  have hR1 := Rd.of_own ho1
  clear ho1
  go_wp2_with fail
  refine (spans_walk _ _ _ _ ((hr2.below hb1).more hb1.size) (by omega)).mono ?_
  rintro e w2 ⟨v2, rfl, ho2, hb2⟩
  obtain ⟨P2, p2, rfl⟩ := own_form ho2
  have hR2 := Rd.of_own ho2
  clear ho2
  have hb02 := hb1.trans (hb2.mono hb1.size)
  have hR12 := (hR1.below hb2).more hb2.size
  go_wp2_with fail
  refine (rapply_ok s _ _ _ _ hR12 (by omega) (by omega) (by omega) Hok.out).mono ?_
  rintro e w3 ⟨rfl, hb3⟩
  have hb03 := hb02.trans (hb3.mono hb02.size)
  have hR13 := (hR12.below hb3).more hb3.size
  have hR23 := (hR2.below hb3).more hb3.size
  have hla := applyL_len (text := s.data.toList) (l := a) (by rw [dlen]; exact Hok.out)
  generalize hsa : (⟨(applyL s.data.toList a).toArray⟩ : ByteArray) = sa
  have Hsa := Lib.hid hsa
  have hsas : sa.size ≤ s.size + spBytes a := by rw [← hsa]; rw [dlen] at hla; exact hla
  clear hsa hla
  go_wp2_with fail
  refine (rapply_ok s _ _ _ _ hR23 (by omega) (by omega) (by omega) Hok2.out).mono ?_
  rintro e w4 ⟨rfl, hb4⟩
  have hb04 := hb03.trans (hb4.mono hb03.size)
  have hR14 := (hR13.below hb4).more hb4.size
  have hR24 := (hR23.below hb4).more hb4.size
  have hlb := applyL_len (text := s.data.toList) (l := b) (by rw [dlen]; exact Hok2.out)
  generalize hsb : (⟨(applyL s.data.toList b).toArray⟩ : ByteArray) = sb
  have Hsb := Lib.hid hsb
  have hsbs : sb.size ≤ s.size + spBytes b := by rw [← hsb]; rw [dlen] at hlb; exact hlb
  clear hsb hlb
  go_wp2_with fail
  refine (merge_ok s.size _ _ _ _ _ _ _ ((hr1.below hb04).more hb04.size) ((hr2.below hb04).more hb04.size) (by omega) (by omega) (by omega) Hok.out Hok2.out).mono ?_
  rintro e w5 ⟨X, cx, Y, cy, rfl, hrx, hry, hb5⟩
  have hb05 := hb04.trans (hb5.mono hb04.size)
  have hxb := behindL_bytes (plainL a) (plainL b) true
  have hyb := behindL_bytes (plainL b) (plainL a) false
  have hpa := plainL_le a
  have hpb := plainL_le b
  have hca : Chain s.data.toList.length 0 a := by rw [dlen]; exact (fault_zero Hok.out).2
  have hcb : Chain s.data.toList.length 0 b := by rw [dlen]; exact (fault_zero Hok2.out).2
  have HX := Lib.hid (merge_x hca hcb)
  have HY := Lib.hid (merge_y hca hcb)
  clear hca hcb
  have hxl := behindL_len (plainL b) true (plainL_spec (fault_zero Hok.out).2).1
  have hyl := behindL_len (plainL a) false (plainL_spec (fault_zero Hok2.out).2).1
  have hfx : fault sb.size (behindL (plainL a) (plainL b) true) = 0 := by
    have := HX.out.1
    rwa [← Hsb.out, mk_size]
  have hfy : fault sa.size (behindL (plainL b) (plainL a) false) = 0 := by
    have := HY.out.1
    rwa [← Hsa.out, mk_size]
  have hxe : applyL sb.data.toList (behindL (plainL a) (plainL b) true) = bothL s.data.toList a b := by rw [← Hsb.out]; exact HX.out.2
  have hye : applyL sa.data.toList (behindL (plainL b) (plainL a) false) = bothL s.data.toList a b := by rw [← Hsa.out]; exact HY.out.2
  have hbl : (bothL s.data.toList a b).length ≤ 1099511627776 := by
    have h1 := applyL_len (text := sb.data.toList) (l := behindL (plainL a) (plainL b) true) (by rw [dlen]; exact hfx)
    rw [hxe, dlen] at h1
    omega
  have Hbd : Hid (bothL s.data.toList a b = doesD (fun g => inB a g ++ inB b g) (fun k => outB a k || outB b k) 0 s.data.toList) := rfl
  have Hbl := Lib.hid hbl
  clear hbl
  have hil : ∀ k, (inB a k).length + (inB b k).length ≤ 16777216 := fun k => by
    have h1 := inB_le a k
    have h2 := inB_le b k
    omega
  have Hil := Lib.hid hil
  clear hil
  generalize behindL (plainL a) (plainL b) true = x at *
  generalize behindL (plainL b) (plainL a) false = y at *
  generalize bothL s.data.toList a b = both at *
  have hxl2 : x.length ≤ 1048576 := by omega
  have hyl2 : y.length ≤ 1048576 := by omega
  have hxb2 : spBytes x ≤ 1048576 := by omega
  have hyb2 : spBytes y ≤ 1048576 := by omega
  have hsa2 : sa.size ≤ 1048576 := by omega
  have hsb2 : sb.size ≤ 1048576 := by omega
  have Hfx := Lib.hid hfx
  have Hfy := Lib.hid hfy
  have Hxe := Lib.hid hxe
  have Hye := Lib.hid hye
  clear hfx hfy hxe hye hxl hyl hxb hyb hpa hpb HX HY
  go_wp2_with fail
  refine (error_yes 0 0 _ (hg.size hb05) rfl).mono ?_
  rintro e w6 ⟨rfl, hb6⟩
  have hb56 := hb5.trans (hb6.mono hb5.size)
  have k6 := hb6
  have hb06 := hb05.trans (hb6.mono hb05.size)
  go_wp2_with fail
  refine (means_walk s.size _ _ _ _ ((hR14.below hb56).more hb56.size) (by omega) (by omega) (by omega) (fault_zero Hok.out).2).mono ?_
  rintro e w7 ⟨v7, rfl, hE7, hb7⟩
  have hb57 := hb56.trans (hb7.mono hb56.size)
  have k7 := k6.trans (hb7.mono k6.size)
  obtain ⟨g1, g2, rfl, hg1, hg2, h71, h72⟩ := hE7
  have hE7 : EAt w7 w7.heap.size (EV s.size g1 g2) s.size (inB a) (outB a) := ⟨g1, g2, rfl, hg1, hg2, h71, h72⟩
  clear h71 h72
  unfold EV
  go_wp2_with fail
  have hM := Blk.new w7 62 #[.int .i64 s.size, .slice (some ⟨g1, 0, none⟩) s.size s.size, .slice (some ⟨g2, 0, none⟩) (s.size + 1) (s.size + 1)]
  have hb8 : Below w7.heap.size w7 (w7.alloc (.cells #[.int .i64 s.size, .slice (some ⟨g1, 0, none⟩) s.size s.size, .slice (some ⟨g2, 0, none⟩) (s.size + 1) (s.size + 1)] 62)) := (Below.refl _ _).alloc (Nat.le_refl _) _
  have hz8 : w7.heap.size < (w7.alloc (.cells #[.int .i64 s.size, .slice (some ⟨g1, 0, none⟩) s.size s.size, .slice (some ⟨g2, 0, none⟩) (s.size + 1) (s.size + 1)] 62)).heap.size := by simp
  generalize (w7.alloc (.cells #[.int .i64 s.size, .slice (some ⟨g1, 0, none⟩) s.size s.size, .slice (some ⟨g2, 0, none⟩) (s.size + 1) (s.size + 1)] 62)) = w8 at *
  have hb58 := hb57.trans (hb8.mono hb57.size)
  have k8 := k7.trans (hb8.mono k7.size)
  have hE8 := (hE7.below hb8).more hb8.size
  generalize w7.heap.size = m1 at *
  refine (means_walk s.size _ _ _ _ ((hR24.below hb58).more hb58.size) (by omega) (by omega) (by omega) (fault_zero Hok2.out).2).mono ?_
  rintro e w9 ⟨v9, rfl, hE9, hb9⟩
  have hb59 := hb58.trans (hb9.mono hb58.size)
  have k9 := k8.trans (hb9.mono k8.size)
  have hE19 := (hE8.below hb9).more hb9.size
  have hM9 := hM.below hb9 hz8
  obtain ⟨g3, g4, rfl, hg3, hg4, h71, h72⟩ := hE9
  have hE9 : EAt w9 w9.heap.size (EV s.size g3 g4) s.size (inB b) (outB b) := ⟨g3, g4, rfl, hg3, hg4, h71, h72⟩
  clear h71 h72 hE7 hE8 hM
  have r0 := hM9.cell 0
  have r1 := hM9.cell 1
  have r2 := hM9.cell 2
  simp at r0 r1 r2
  unfold EV
  have hm1 : m1 < w9.heap.size := hM9.lt
  go_wp2_with fail
  have hb10 : Below w9.heap.size w9 (w9.alloc (.cells #[.int .i64 s.size, .slice (some ⟨g3, 0, none⟩) s.size s.size, .slice (some ⟨g4, 0, none⟩) (s.size + 1) (s.size + 1)] 62)) := (Below.refl _ _).alloc (Nat.le_refl _) _
  generalize (w9.alloc (.cells #[.int .i64 s.size, .slice (some ⟨g3, 0, none⟩) s.size s.size, .slice (some ⟨g4, 0, none⟩) (s.size + 1) (s.size + 1)] 62)) = w10 at *
  have hb510 := hb59.trans (hb10.mono hb59.size)
  have k10 := k9.trans (hb10.mono k9.size)
  refine (both_walk s.size (EV s.size g1 g2) (EV s.size g3 g4) _ _ _ _ _ ((hE19.below hb10).more hb10.size) ((hE9.below hb10).more hb10.size) (by omega) (fun k _ => Hil.out k)).mono ?_
  rintro e w11 ⟨v11, rfl, hE11, hb11⟩
  have hb511 := hb510.trans (hb11.mono hb510.size)
  have k11 := k10.trans (hb11.mono k10.size)
  obtain ⟨g5, g6, rfl, hg5, hg6, h71, h72⟩ := hE11
  have hE11 : EAt w11 w11.heap.size (EV s.size g5 g6) s.size _ _ := ⟨g5, g6, rfl, hg5, hg6, h71, h72⟩
  clear h71 h72 hE19 hE9 r0 r1 r2
  unfold EV
  go_wp2_with fail
  have hb12 : Below w11.heap.size w11 (w11.alloc (.cells #[.int .i64 s.size, .slice (some ⟨g5, 0, none⟩) s.size s.size, .slice (some ⟨g6, 0, none⟩) (s.size + 1) (s.size + 1)] 62)) := (Below.refl _ _).alloc (Nat.le_refl _) _
  generalize (w11.alloc (.cells #[.int .i64 s.size, .slice (some ⟨g5, 0, none⟩) s.size s.size, .slice (some ⟨g6, 0, none⟩) (s.size + 1) (s.size + 1)] 62)) = w12 at *
  have hb512 := hb511.trans (hb12.mono hb511.size)
  have k12 := k11.trans (hb12.mono k11.size)
  refine (does_walk s (EV s.size g5 g6) s.size _ _ _ ((hE11.below hb12).more hb12.size) rfl (by omega) (by rw [← Hbd.out]; exact Hbl.out)).mono ?_
  rw [← Hbd.out]
  rintro e w13 ⟨rfl, hb13⟩
  have hb513 := hb512.trans (hb13.mono hb512.size)
  have k13 := k12.trans (hb13.mono k12.size)
  clear hE11
  go_wp2_with fail
  have hrx13 := (hrx.below k13).more k13.size
  have hry13 := (hry.below k13).more k13.size
  have hb013 := hb04.trans (hb513.mono hb04.size)
  clear k6 k7 k8 k9 k10 k11 k12 k13 hrx hry hb56 hb57 hb58 hb59 hb510 hb511 hb512 hb6 hb7 hb8 hb9 hb10 hb11 hb12 hb13 hM9 hg1 hg2 hg3 hg4 hg5 hg6
  refine (spans_walk _ _ _ _ hrx13 (by omega)).mono ?_
  rintro e w14 ⟨v14, rfl, ho14, hb14⟩
  have hb014 := hb013.trans (hb14.mono hb013.size)
  have hry14 := (hry13.below hb14).more hb14.size
  obtain ⟨P14, p14, rfl⟩ := own_form ho14
  have hR14x := Rd.of_own ho14
  clear ho14
  go_wp2_with fail
  refine (spans_walk _ _ _ _ hry14 (by omega)).mono ?_
  rintro e w15 ⟨v15, rfl, ho15, hb15⟩
  have hb015 := hb014.trans (hb15.mono hb014.size)
  have hR15x := (hR14x.below hb15).more hb15.size
  obtain ⟨P15, p15, rfl⟩ := own_form ho15
  have hR15y := Rd.of_own ho15
  clear ho15
  go_wp2_with fail
  refine (rapply_ok sb _ _ _ _ hR15x (by omega) (by omega) (by omega) Hfx.out).mono ?_
  rintro e w16 ⟨rfl, hb16⟩
  have hb016 := hb015.trans (hb16.mono hb015.size)
  have hR16y := (hR15y.below hb16).more hb16.size
  rw [Hxe.out]
  go_wp2_with fail
  refine (rapply_ok sa _ _ _ _ hR16y (by omega) (by omega) (by omega) Hfy.out).mono ?_
  rintro e w17 ⟨rfl, hb17⟩
  rw [Hye.out]
  go_wp2
  go_ret
  exact ⟨by simp, hb016.trans (hb17.mono hb016.size)⟩

theorem editMerges_walk (s : ByteArray) (A1 : Option Addr) (c1 : Nat) (a : List Sp) (A2 : Option Addr) (c2 : Nat) (b : List Sp) (w : World) (hg : ErrT w) (hr1 : Rd w w.heap.size 3 A1 a.length (spCells a)) (hr2 : Rd w w.heap.size 3 A2 b.length (spCells b))
    (hbk : s.size + (a.length + spBytes a) + (b.length + spBytes b) ≤ 1048576) :
    Calls Tryd.prog 8 #[.string s, .slice A1 a.length c1, .slice A2 b.length c2] w fun e w' => e = .returned (.bool true) ∧ Below w.heap.size w w' := by
  by_cases h : fault s.size a = 0 ∧ fault s.size b = 0
  · exact editMerges_ok s A1 c1 a A2 c2 b w hg hr1 hr2 hbk h.1 h.2
  · exact editMerges_bad s A1 c1 a A2 c2 b w hg hr1 hr2 hbk h
end Go.Proofs.YtffcfnnbdmihaaaDoor
