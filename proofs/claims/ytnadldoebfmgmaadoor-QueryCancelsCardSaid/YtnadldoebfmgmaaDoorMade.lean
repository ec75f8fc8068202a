/-
  THE WALK of amanuensislaw4.made: a sheet on both sides.
-/
import Derived.Test.YtnadldoebfmgmaaDoorR7Fault
import Derived.Test.YtnadldoebfmgmaaDoorQW
import Derived.Test.YtnadldoebfmgmaaDoorToldQ
namespace Go.Proofs.YtnadldoebfmgmaaDoor.q
open Go.RowKit

set_option maxHeartbeats 2000000 in
set_option maxRecDepth 100000 in
theorem made_bad (A : Option Addr) (c : Nat) (l : List Ru) (w : World) (hr : Rd w w.heap.size 4 A l.length (ruCells l)) (hl : l.length ≤ capR) (hg : ErrT w) (hf : faultM l ≠ 0) :
    Calls Tryd.prog 5 #[.slice A l.length c] w fun e w' => e = .returned (.tuple #[.pointer none, .pointer none, .bool true]) ∧ Below w.heap.size w w' := by
  obtain ⟨k, hk, hk2⟩ : ∃ k : Nat, faultM l = k ∧ (errV k = .iface 66 (.int .i64 (faultM l))) := by
    rcases fault_cases l with h | h | h
    · exact absurd h hf
    · exact ⟨1, h, by rw [h]; rfl⟩
    · exact ⟨12, h, by rw [h]; rfl⟩
  have hfn : (faultM l != 0) = true := by simpa using hf
  have HN := Lib.hid (New_bad A c l w hr hf)
  have HR := Lib.hid hr
  have HL := Lib.hid hl
  have HG := Lib.hid hg
  have HK := Lib.hid hk
  have HK2 := Lib.hid hk2
  clear hr hl hg hf hk hk2
  go_enter Tryd.func5, Tryd.ntmps5
  go_wp2_with fail
  refine HN.out.mono ?_
  rintro e w1 ⟨rfl, hb1⟩
  have HG1 := Lib.hid (HG.out.size hb1)
  have hz1 := hb1.size
  have HR1 := Lib.hid ((HR.out.below hb1).more hz1)
  have HB1 := Lib.hid hb1
  clear hb1
  go_wp2_with fail
  refine (rules_walk A c l w1 HR1.out HL.out).mono ?_
  rintro e w2 ⟨v, rfl, hown, hb2⟩
  obtain ⟨Av, cv, rfl⟩ := own_form hown
  have HG2 := Lib.hid (HG1.out.size hb2)
  have HR2 := Lib.hid (Rd.of_own hown)
  have HB2 := Lib.hid (HB1.out.trans (hb2.mono hz1))
  clear hb2 hown
  go_wp2_with fail
  refine (rfault_walk Av cv l w2 HR2.out).mono ?_
  rintro e w' ⟨rfl, rfl⟩
  rw [← HK2.out]
  go_wp2_with fail
  refine (error_yes k (faultM l) w2 HG2.out HK.out.symm).mono ?_
  rintro e w3 ⟨rfl, hb3⟩
  have HB3 := Lib.hid (HB2.out.trans (hb3.mono HB2.out.size))
  clear hb3
  go_wp2_with fail
  go_ret3
  exact ⟨rfl, HB3.out⟩

/-- a sheet, and its reference, in memory: what the law holds -/
structure Both (w : World) (B0 sp H1 H2 rp : Nat) (ps : List Nat) (vc : Value) (rb rc : Nat) (s : Sh) (l : List Ru) (vs : List Int) : Prop where
  sh : ShAt (fun j => j < B0 ∨ (H1 ≤ j ∧ j < H2)) w B0 sp 0 ps vc rb rc s
  rf : Ref w H1 H2 rp l vs
  b1 : B0 ≤ H1
  b2 : H1 ≤ H2
  b3 : H2 ≤ w.heap.size
set_option maxHeartbeats 2000000 in
set_option maxRecDepth 100000 in
theorem made_good (A : Option Addr) (c : Nat) (l : List Ru) (w : World) (hr : Rd w w.heap.size 4 A l.length (ruCells l)) (hg : ErrT w) (hf : faultM l = 0) :
    Calls Tryd.prog 5 #[.slice A l.length c] w fun e w' => ∃ sp rp H1 H2 ps vc rb rc, e = .returned (.tuple #[.pointer (some ⟨sp, 0, none⟩), .pointer (some ⟨rp, 0, none⟩), .bool true]) ∧
      Both w' w.heap.size sp H1 H2 rp ps vc rb rc (newS l) l (List.replicate l.length 0) ∧ Below w.heap.size w w' := by
  have h64 := (fault_zero hf).1
  have hl : l.length ≤ capR := by unfold capR; omega
  have HN := Lib.hid (New_good A c l w hr hf)
  have HR := Lib.hid hr
  have HL := Lib.hid hl
  have HG := Lib.hid hg
  have HF := Lib.hid hf
  clear hr hl hg hf
  go_enter Tryd.func5, Tryd.ntmps5
  go_wp2_with fail
  refine HN.out.mono ?_
  rintro e w1 ⟨sp, ps, vc, rb, rc, rfl, hS1, hb1⟩
  have HG1 := Lib.hid (HG.out.size hb1)
  have hz1 := hb1.size
  have HR1 := Lib.hid ((HR.out.below hb1).more hz1)
  have HB1 := Lib.hid hb1
  have HS1 := Lib.hid hS1
  clear hb1 hS1 HN
  go_wp2_with fail
  refine (rules_walk A c l w1 HR1.out HL.out).mono ?_
  rintro e w2 ⟨v, rfl, hown, hb2⟩
  obtain ⟨Av, cv, rfl⟩ := own_form hown
  have HG2 := Lib.hid (HG1.out.size hb2)
  have HR2 := Lib.hid (Rd.of_own hown)
  have HO2 := Lib.hid hown
  have hz2 := hb2.size
  have HB2 := Lib.hid hb2
  clear hb2 hown
  go_wp2_with fail
  refine (rfault_walk Av cv l w2 HR2.out).mono ?_
  rintro e w' ⟨rfl, rfl⟩
  rw [HF.out]
  go_wp2_with fail
  refine (show Calls _ _ _ w2 _ from error_yes 0 0 w2 HG2.out rfl).mono ?_
  rintro e w3 ⟨rfl, hb3⟩
  have hz3 := hb3.size
  have HO3 := Lib.hid (own_of_block HO2.out fun k hk => hb3.block k (HO2.out.lt k hk).2)
  have HB3 := Lib.hid (HB2.out.trans (hb3.mono hz2))
  clear hb3 HO2 HB2
  go_wp2_with fail
  refine (ref_new Av cv l w3 w1.heap.size HO3.out (by omega) (by omega)).mono ?_
  rintro e w4 ⟨rp, rfl, hR4, hb4⟩
  have hz4 := hb4.size
  have hB4 := HB3.out.trans (hb4.mono (by omega))
  have HBth : Hid (Both w4 w.heap.size sp w1.heap.size w4.heap.size rp ps vc rb rc (newS l) l (List.replicate l.length 0)) :=
    ⟨HS1.out.other (fun j hj _ => hB4.block j hj) (fun j hj => hj.imp id fun e => e.1), hR4, hz1, by omega, Nat.le_refl _⟩
  have HE := Lib.hid (HB1.out.trans (hB4.mono hz1))
  clear hR4 hb4 hB4
  go_wp2_with fail
  go_ret3
  exact ⟨sp, rp, _, _, ps, vc, rb, rc, rfl, HBth.out, HE.out⟩
end Go.Proofs.YtnadldoebfmgmaaDoor.q
