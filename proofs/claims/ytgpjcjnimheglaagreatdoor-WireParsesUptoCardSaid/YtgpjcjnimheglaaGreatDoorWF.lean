/-
  THE WALKS of wire.Frame, of the law's own cut, and of the reader's line.
-/
import Derived.Test.YtgpjcjnimheglaaGreatDoorShelfW
import Derived.Test.YtgpjcjnimheglaaGreatDoorTxt
import Derived.Test.YtgpjcjnimheglaaGreatDoorWA
import Derived.Shelf.Strings.SlTrimAscii
import Derived.Lib.LaidTab
import Derived.Deep.AppendLies
namespace Go.Proofs.YtgpjcjnimheglaaGreatDoor
open Go.RowKit
open Go.Lib (itoa decDigits_length)

/-- internal/bytealg.MaxLen holds some number -/
def MaxL (w : World) (m : Int) : Prop := w.cell? ⟨4, 0, none⟩ = some (.int .i64 m)
theorem MaxL.lt {w : World} {m : Int} (h : MaxL w m) : 4 < w.heap.size := World.block_lt_of_cell? w ⟨4, 0, none⟩ h
theorem MaxL.below {w w' : World} {B : Nat} {m : Int} (h : MaxL w m) (hb : Below B w w') (hB : 4 < B) : MaxL w' m := (hb.cell (p := ⟨4, 0, none⟩) hB).trans h
/-- the table of powers of ten -/
def Tab10 (w : World) : Prop := Lib.TabIs Tryz.prog w "internal/strconv.uint64pow10" .u64 Lib.pow10Tab
theorem g10 : Tryz.prog.globalNamed "internal/strconv.uint64pow10" = some 7 := by kernel_rfl
theorem Tab10.below {w w' : World} {B : Nat} (h : Tab10 w) (hb : Below B w w') (hB : 7 < B) : Tab10 w' := by
  unfold Tab10 Lib.TabIs World.var? at h ⊢
  rw [g10] at h ⊢
  simp only [Option.bind_some] at h ⊢
  rw [hb.block _ hB]; exact h

theorem below_grow (w : World) (os : Array Obj) : Below w.heap.size w (Go.Sort.grow w os) := by
  refine ⟨rfl, rfl, rfl, by simp [Go.Sort.grow], fun k hk => ?_⟩
  simp [Go.Sort.grow, Array.getElem?_append, hk]

theorem itoa_len (b : Bs) (h : b.length ≤ 1048576) : (itoa b.length).length ≤ 9 := by
  rw [Wire.itoa_nat, decDigits_length]
  exact Wire.nDigits_le 9 _ (by omega) (by omega)
def intV (l : List Int) : List Value := l.map fun n => .int .i64 n
theorem Rd.intv {w : World} {B : Nat} {A : Option Addr} {l : List Int} {k : Nat} (h : Rd w B 1 A l.length (intV l)) (hk : k < l.length) :
    ∃ b o, A = some ⟨b, o, none⟩ ∧ b < B ∧ w.cell? ⟨b, o + k, none⟩ = some (.int .i64 l[k]) := by
  obtain ⟨b, o, e, hb, hc⟩ := h.2 (by omega)
  exact ⟨b, o, e, hb, hc k _ (by simp [intV, List.getElem?_eq_getElem hk])⟩
theorem txtV_snoc (l : List Bs) (x : Bs) : txtV (l ++ [x]) = txtV l ++ [strV x] := by simp [txtV]
theorem cuts_len (s : Bs) : ∀ (cs : List Int) (last : Nat), (Wire.cutsM s last cs).length ≤ cs.length + 1
  | [], _ => by simp [Wire.cutsM]
  | c :: cs, last => by
    unfold Wire.cutsM
    split
    · have := cuts_len s cs c.toNat; simp; omega
    · have := cuts_len s cs last; simp; omega

end Go.Proofs.YtgpjcjnimheglaaGreatDoor
