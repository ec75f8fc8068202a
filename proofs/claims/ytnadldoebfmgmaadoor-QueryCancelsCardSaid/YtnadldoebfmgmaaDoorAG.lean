/-
  THE WALK of (*query.Sheet).get, broken off or not.
-/
import Derived.Test.YtnadldoebfmgmaaDoorAQ
import Derived.Test.YtnadldoebfmgmaaDoorQT
namespace Go.Proofs.YtnadldoebfmgmaaDoor.q
open Go.RowKit

theorem AftA.more {N : Nat → Prop} {w w2 w3 : World} {base sp rb rc : Nat} {lk : Int} {ps : List Nat} {vc : Value} {s : Sh} (h : AftA N w.heap.size w w2 base sp lk ps vc rb rc s) (hN : ∀ j, N j → j < w.heap.size) (hz : base ≤ w.heap.size) (hb : Below w2.heap.size w2 w3) :
    AftA N w.heap.size w w3 base sp lk ps vc rb rc s := by
  obtain ⟨s', a, b, c, d, e⟩ := h
  have := c.size
  exact ⟨s', a.below hb, fun j hj => (hb.block j (by have := hN j hj; omega)).trans (b j hj), c.trans (hb.mono (by omega)), d.trans (LedB.below hb (by omega)), e⟩
theorem AftA.refl {N : Nat → Prop} {w : World} {base sp rb rc : Nat} {lk : Int} {ps : List Nat} {vc : Value} {s : Sh} (h : ShAt N w base sp lk ps vc rb rc s) : AftA N w.heap.size w w base sp lk ps vc rb rc s :=
  ⟨s, h, fun _ _ => rfl, Below.refl _ _, LedB.refl, RelA.refl s⟩
/-- how get may end -/
def EndG (e : Ending) : Prop := (∃ n er : Int, e = .returned (.tuple #[.int .i64 n, errQ er]) ∧ (er = 0 ∨ er = 1 ∨ er = 7) ∧ I64 n) ∨ e = .panicked enoughC
set_option maxHeartbeats 1000000 in
set_option maxRecDepth 100000 in
theorem get_walkA {N : Nat → Prop} {w : World} {base sp rb rc : Nat} {lk : Int} {ps : List Nat} {vc : Value} {s : Sh} (hS : ShAt N w base sp lk ps vc rb rc s) (hN : ∀ j, N j → j < w.heap.size) (hz : base ≤ w.heap.size) (ok : s.Ok) (ft : s.FitA) (k : Int) :
    Calls Tryd.prog 23 #[.pointer (some ⟨sp, 0, none⟩), .int .i64 k] w fun e w' => EndG e ∧ AftA N w.heap.size w w' base sp lk ps vc rb rc s := by
  have hlen := hS.len
  by_cases hk : 0 ≤ k ∧ k < ps.length
  · obtain ⟨n, rfl⟩ := Int.eq_ofNat_of_zero_le hk.1
    have hn : n < ps.length := by omega
    have HB := Lib.hid (br_okA (s.nb + 1) N w base sp lk ps vc rb rc s n hS hN hz ok ft (by omega) (by omega))
    have HN := Lib.hid hN
    have HT := Lib.hid (there_yes hS n hn)
    clear hS hN ok ft hk hlen
    go_enter Tryd.func23, Tryd.ntmps23
    go_wp2_with fail
    refine HT.out.mono ?_
    rintro e w' ⟨rfl, rfl⟩
    go_wp2_with fail
    refine HB.out.mono ?_
    rintro e w2 ⟨he, hA⟩
    have HA := Lib.hid hA
    clear hA
    rcases he with ⟨xn, xe, rfl, he, hn⟩ | rfl
    case' inr => exact ⟨rfl, .inr rfl, HA.out⟩
    have Hn := Lib.hid hn
    clear hn
    rcases he with rfl | rfl
    · go_wp2_with fail
      go_ret2
      exact ⟨.inl ⟨xn, 0, rfl, .inl rfl, Hn.out⟩, HA.out.more HN.out hz ((Below.refl _ _).alloc (Nat.le_refl _) _)⟩
    · go_wp2_with fail
      go_quiet (fail)
      go_wp2_with fail
      go_ret2
      exact ⟨.inl ⟨0, 7, rfl, .inr (.inr rfl), i64_0⟩, HA.out.more HN.out hz (below_drewN ((Below.refl _ _).alloc (Nat.le_refl _) _) _)⟩
  · have HT := Lib.hid (there_no hS k hk)
    have HS := Lib.hid hS
    clear hk hlen hS ok ft hN
    go_enter Tryd.func23, Tryd.ntmps23
    go_wp2_with fail
    refine HT.out.mono ?_
    rintro e w' ⟨rfl, rfl⟩
    go_wp2_with fail
    go_ret2
    exact ⟨.inl ⟨0, 1, rfl, .inr (.inl rfl), i64_0⟩, AftA.refl HS.out⟩
end Go.Proofs.YtnadldoebfmgmaaDoor.q
