/-
  THE WALK of the reader's line.
-/
import Derived.Test.YtgpjcjnimheglaaGreatDoorWF
namespace Go.Proofs.YtgpjcjnimheglaaGreatDoor
open Go.RowKit

def rdC (r : Wire.RS) : Array Value := #[strV r.rest, .int .i64 r.len, .bool r.body, .int .i64 r.err]
def Oth1 (p : Nat) (w w' : World) : Prop := ∀ b, b < w.heap.size → b ≠ p → w'.heap[b]? = w.heap[b]?
theorem Oth1.trans {p : Nat} {w w1 w2 : World} (h : Oth1 p w w1) (h' : Oth1 p w1 w2) (hs : w.heap.size ≤ w1.heap.size) : Oth1 p w w2 := fun b hb hn => (h' b (by omega) hn).trans (h b hb hn)
theorem Oth1.set {p : Nat} (w : World) (j : Nat) (u : Value) : Oth1 p w (w.setCell ⟨p, j, none⟩ u) := fun b _ hn => Below.heap_setCell w ⟨p, j, none⟩ u b hn
theorem Oth1.below {p : Nat} {w w' : World} (h : Below w.heap.size w w') : Oth1 p w w' := fun b hb _ => h.block b hb
theorem Oth1.refl (p : Nat) (w : World) : Oth1 p w w := fun _ _ _ => rfl

theorem trim_walk (s : Bs) (w : World) (hs : s.length ≤ 100000000) : Calls Tryz.prog 164 #[.string ⟨s.toArray⟩, .string ⟨#[48, 49, 50, 51, 52, 53, 54, 55, 56, 57]⟩] w fun e w' => e = .returned (.string ⟨(Lib.trimS s Wire.dgs).toArray⟩) ∧ Below w.heap.size w w' :=
  Any.strings_Trim_laid Tryz.lays160 (by kernel_rfl) ⟨s.toArray⟩ ⟨#[48, 49, 50, 51, 52, 53, 54, 55, 56, 57]⟩ w (by rw [mk_size]; omega) (by decide) (ascii_of_all (by decide))
theorem atoi_walk (s : Bs) (w : World) (h1 : 1 ≤ s.length) (h2 : s.length ≤ 10) (h3 : Lib.trimS s Wire.dgs = []) : Calls Tryz.prog 127 #[.string ⟨s.toArray⟩] w fun e w' => e = .returned (.tuple #[.int .i64 (Wire.valD s), .nilIface]) ∧ Below w.heap.size w w' :=
  (Tryz.strconv_Atoi_ok ⟨s.toArray⟩ (by rw [mk_size]; omega) (Wire.valD s) (Wire.atoi_digits s h1 h2 h3) w).mono fun e w' h => by
    refine ⟨h.1, ?_⟩
    rcases h.2 with rfl | ⟨t, rfl⟩
    · exact Below.refl _ _
    · exact Lib.bytesWorld_below _ _ _
theorem scut_walk (s : Bs) (m : Int) (w : World) (hM : MaxL w m) (hs : s.length ≤ 100000000) : Calls Tryz.prog 109 #[.string ⟨s.toArray⟩, .string ⟨#[58]⟩] w fun e w' => e = .returned (.tuple #[.string ⟨(Lib.cut s [58]).1.toArray⟩, .string ⟨(Lib.cut s [58]).2.1.toArray⟩, .bool (Lib.cut s [58]).2.2]) ∧ ∃ n, w' = w.drewN n :=
  Tryz.strings_Cut ⟨s.toArray⟩ ⟨#[58]⟩ m w (by rw [mk_size]; omega) hM
theorem lcut_walk (s : Bs) (m : Int) (w : World) (hM : MaxL w m) (hs : s.length ≤ 100000000) : Calls Tryz.prog 109 #[.string ⟨s.toArray⟩, .string ⟨#[13, 10]⟩] w fun e w' => e = .returned (.tuple #[.string ⟨(Lib.cut s Wire.crlf).1.toArray⟩, .string ⟨(Lib.cut s Wire.crlf).2.1.toArray⟩, .bool (Lib.cut s Wire.crlf).2.2]) ∧ ∃ n, w' = w.drewN n :=
  Tryz.strings_Cut ⟨s.toArray⟩ ⟨#[13, 10]⟩ m w (by rw [mk_size]; omega) hM
end Go.Proofs.YtgpjcjnimheglaaGreatDoor
