/-
  THE WALKS of edit.Plain, amanuensissame.SameSpans.
-/
import Derived.Test.YtffcfnnbdmihaaaDoorPlain
import Derived.Test.YtffcfnnbdmihaaaDoorSame
import Derived.Laws.AppendOwnNone
namespace Go.Proofs.YtffcfnnbdmihaaaDoor
open Go.RowKit

theorem spCells_one (l : List Sp) : ∀ u ∈ spCells l, u.oneCell' = true := by
  induction l with
  | nil => intro u hu; simp [spCells] at hu
  | cons s r ih =>
    intro u hu
    simp only [spCells, List.flatMap_cons, List.mem_append] at hu
    rcases hu with hu | hu
    · simp only [Sp.cells, List.mem_cons, List.mem_nil_iff, or_false] at hu
      rcases hu with rfl | rfl | rfl <;> rfl
    · exact ih u hu

set_option maxHeartbeats 1000000 in
set_option maxRecDepth 100000 in
theorem editPlain_bad (n : Int) (A : Option Addr) (c : Nat) (l : List Sp) (w : World) (hr : Rd w w.heap.size 3 A l.length (spCells l)) (hl : l.length ≤ 1048576) (hbad : fault n l = 1 ∨ fault n l = 2) :
    Calls Tryd.prog 31 #[.int .i64 n, .slice A l.length c] w fun e w' => e = .returned (.tuple #[.slice none 0 0, errV (fault n l)]) ∧ Below w.heap.size w w' := by
  obtain ⟨v, hv⟩ : ∃ v : Int, errV (fault n l) = .iface 97 (.int .i64 v) := by rcases hbad with h | h <;> rw [h] <;> exact ⟨_, rfl⟩
  have Hv := Lib.hid hv
  clear hv hbad
  go_enter Tryd.func31, Tryd.ntmps31
  go_wp2_with fail
  refine (fault_walk _ _ _ _ _ hr hl).mono ?_
  rw [Hv.out]
  rintro e w1 ⟨rfl, hb1⟩
  go_wp2_with fail
  go_ret2
  exact ⟨by rw [Hv.out]; rfl, hb1⟩

set_option maxHeartbeats 1000000 in
set_option maxRecDepth 100000 in
theorem editPlain_ok (n : Int) (A : Option Addr) (c : Nat) (l : List Sp) (w : World) (hr : Rd w w.heap.size 3 A l.length (spCells l)) (hl : l.length + spBytes l ≤ 1048576) (hok : fault n l = 0) :
    Calls Tryd.prog 31 #[.int .i64 n, .slice A l.length c] w fun e w' => ∃ v, e = .returned (.tuple #[v, .nilIface]) ∧ w'.ownsRow w.heap.size 100 3 v (plainL l).length (spCells (plainL l)) ∧ Below w.heap.size w w' := by
  obtain ⟨i0, ji, jz0, jz1, jz2⟩ := info_parts infoSpan
  have Hok := Lib.hid hok
  have hpl := (plainL_le l).1
  generalize hpe : plainL l = pl at hpl ⊢
  have Hpe := Lib.hid hpe
  have hcl := spCells_len pl
  clear hok hpe
  go_enter Tryd.func31, Tryd.ntmps31
  go_wp2_with fail
  refine (fault_walk _ _ _ _ _ hr (by omega)).mono ?_
  rw [Hok.out, show errV 0 = .nilIface from rfl]
  rintro e w1 ⟨rfl, hb1⟩
  have hz1 := hb1.size
  go_wp2_with fail
  have hO := World.ownsRow_lit (base := w.heap.size) (e := 100) (size := 3) w1 #[] 0 hz1 (by unfold maxLen; omega) rfl
  have hb2 : Below w.heap.size w (w1.alloc (.cells #[] 100)) := hb1.alloc hz1 _
  have hz2 := hb2.size
  refine (plain_walk _ _ _ _ ((hr.below hb2).more hz2) hl).mono ?_
  rw [Hpe.out]
  rintro e w3 ⟨v, rfl, hown, hb3⟩
  have hb13 := hb2.trans (hb3.mono hz2)
  have hz3 := hb13.size
  have hO3 := own_of_block hO fun k hk => hb3.block k (by have := (hO.lt k hk).2; omega)
  clear hO hb1 hb2 hb3
  rcases hown.2 with ⟨rfl, hx⟩ | ⟨g, cap, cur, rfl, hrest⟩
  · have h0 : pl = [] := List.eq_nil_of_length_eq_zero hx
    subst h0
    go_wp2_with (at_builtin; refine wpList_append_own_none rfl _ _ 41 rfl w.heap.size 100 i0 3 Tryd.underlying41 ji _ 0 _ rfl hO3 rfl ?_)
    go_ret2
    exact ⟨.slice (some ⟨w1.heap.size, 0, none⟩) 0 0, rfl, hO3, hb13⟩
  · go_wp2_with (at_builtin; refine wpList_append_own _ rfl _ _ 41 rfl w.heap.size 100 i0 _ 3 32 Tryd.underlying41 ji jz0 jz1 jz2 rfl (by omega) _ 0 _ rfl hO3 ⟨g, 0, none⟩ pl.length cap (spCells pl) rfl hcl (hown.cells rfl) (spCells_one pl) (by unfold maxLen; omega) (by omega) hz3 ?_; intro v' w4 hown4 hgrow _)
    go_ret2
    exact ⟨_, rfl, by simpa using hown4, hb13.grown hgrow hz3 fun g hg => (hO3.lt g hg).1⟩

set_option maxHeartbeats 1000000 in
set_option maxRecDepth 100000 in
theorem sameSpans_yes (A1 : Option Addr) (c1 : Nat) (A2 : Option Addr) (c2 : Nat) (l : List Sp) (w : World) (hr1 : Rd w w.heap.size 3 A1 l.length (spCells l)) (hr2 : Rd w w.heap.size 3 A2 l.length (spCells l)) (hl : l.length ≤ 1048576) :
    Calls Tryd.prog 34 #[.slice A1 l.length c1, .slice A2 l.length c2] w fun e w' => e = .returned (.bool true) ∧ Below w.heap.size w w' := by
  go_enter Tryd.func34, Tryd.ntmps34
  go_wp2_with fail
  go_loopw [5] (fun i wr => ∃ k : Nat, k ≤ l.length ∧ i = .int .i64 k ∧ Below w.heap.size w wr) (fun i _ => l.length - (intOf i).toNat)
  case atStart => exact ⟨0, Nat.zero_le _, rfl, Below.refl _ _⟩
  case round =>
    obtain ⟨k, hk, rfl, hb⟩ := hrel
    by_cases hlt : k < l.length
    · obtain ⟨b, o, rfl, hbB, hcs⟩ := (hr1.below hb).sp hlt
      obtain ⟨p0, p1, p2⟩ := hcs k hlt
      clear hcs
      obtain ⟨b', o', rfl, hbB', hcs⟩ := (hr2.below hb).sp hlt
      obtain ⟨q0, q1, q2⟩ := hcs k hlt
      clear hcs
      generalize l[k] = x at *
      have i1 : (0 : Int) ≤ (k : Int) := by omega
      have i2 : (k : Int) < (l.length : Int) := by omega
      go_wp2_with fail
      go_quiet (fail)
      go_wp2_with fail
      go_roundw
      case rel => exact ⟨k + 1, by omega, by go_num, below_drewN hb _⟩
      case measure => simp [intOf]; omega
    · obtain rfl : k = l.length := by omega
      go_wp2
      go_ret
      exact ⟨rfl, hb⟩
end Go.Proofs.YtffcfnnbdmihaaaDoor
