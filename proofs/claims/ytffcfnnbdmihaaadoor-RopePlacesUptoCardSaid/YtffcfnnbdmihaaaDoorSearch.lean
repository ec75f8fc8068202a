/-
  sort.SearchInts (the shelf's contract, laid here by hand), unicode/utf8.DecodeRuneInString.
-/
import Derived.Test.YtffcfnnbdmihaaaDoorChars
import Derived.Test.YtffcfnnbdmihaaaDoorShelf3
import Derived.Shelf.SlSorted.Search
import Derived.Shelf.Spec.BytesIndexFunc
namespace Go.Proofs
open Go.Shelf
def Tryd.searchI_ren : Go.Shelf.Ren := ⟨fun | 14 => 51 | 16 => 70 | 22 => 71 | n => n, fun | 0 => 0 | 3 => 3 | 4 => 4 | 28 => 76 | 35 => 85 | 38 => 136 | n => n, fun n => n⟩
theorem Tryd.searchI : SlLaysO.n14 Tryd.prog Tryd.searchI_ren := {
  mixed := by kernel_rfl
  f14 := Tryd.func51.trans (congrArg some (by kernel_rfl))
  f16 := Tryd.func70.trans (congrArg some (by kernel_rfl))
  f22 := Tryd.func71.trans (congrArg some (by kernel_rfl))
  t0 := Tryd.underlying0
  a0 := Tryd.isAgg0
  z0 := Tryd.sizeOf0
  v0 := Tryd.zeroValue0
  t3 := Tryd.underlying3
  a3 := Tryd.isAgg3
  z3 := Tryd.sizeOf3
  v3 := Tryd.zeroValue3
  t4 := Tryd.underlying4
  a4 := Tryd.isAgg4
  z4 := Tryd.sizeOf4
  v4 := Tryd.zeroValue4
  t28 := Tryd.underlying76
  a28 := Tryd.isAgg76
  z28 := Tryd.sizeOf76
  v28 := Tryd.zeroValue76
  t35 := Tryd.underlying85
  a35 := Tryd.isAgg85
  z35 := Tryd.sizeOf85
  v35 := Tryd.zeroValue85
  t38 := Tryd.underlying136
  a38 := Tryd.isAgg136
  z38 := Tryd.sizeOf136
  v38 := Tryd.zeroValue136 }
end Go.Proofs
namespace Go.Proofs.YtffcfnnbdmihaaaDoor
open Go.RowKit

theorem search_walk (g cap : Nat) (ls : List Nat) (x : Nat) (w : World) (h : Rd w w.heap.size 1 (some ⟨g, 0, none⟩) ls.length (nums ls)) (hp : ls.Pairwise (· < ·)) (h0 : 0 < ls.length) (hl : ls.length ≤ 16777217) :
    Calls Tryd.prog 51 #[.slice (some ⟨g, 0, none⟩) ls.length cap, .int .i64 x] w fun e w' => e = .returned (.int .i64 (ls.countP fun y => decide (y < x) : Nat)) ∧ Below w.heap.size w w' := by
  obtain ⟨b, o, e, hb, hc⟩ := h.2 h0
  injection e with e
  injection e with e1 e2
  subst e1 e2
  have hd : ((ls.map Int.ofNat).toArray).size = ls.length := by simp
  have hget : ∀ i, i < ls.length → ((ls.map Int.ofNat).toArray)[i]! = (ls[i]?.getD 0 : Nat) := fun i hi => by
    rw [Array.getElem!_eq_getD, Array.getD_eq_getD_getElem?]
    simp [hi]
  have key := Any.sort_SearchInts Tryd.searchI g 0 cap (ls.map Int.ofNat).toArray x w (fun i hi => by
      rw [hd] at hi
      rw [hget i hi]
      refine hc i _ ?_
      simp [nums, hi]) hb (by rw [hd]; omega) (fun a b hab hb2 hx => by
      rw [hd] at hb2
      rw [hget a (by omega)] at hx
      rw [hget b hb2]
      have hx' := of_decide_eq_true hx
      refine decide_eq_true ?_
      rcases Nat.lt_or_ge a b with h' | h'
      · have := List.pairwise_iff_getElem.1 hp a b (by omega) hb2 h'
        simp [hb2, show a < ls.length by omega] at hx' ⊢
        omega
      · obtain rfl : a = b := by omega
        exact hx')
  rw [hd] at key
  have ec : ((ls.map Int.ofNat).toArray).toList.countP (fun y => !decide ((x : Int) ≤ y)) = ls.countP fun y => decide (y < x) := by
    rw [List.toList_toArray, List.countP_map]
    congr 1
    funext y
    show (!decide ((x : Int) ≤ (y : Int))) = decide (y < x)
    rw [Bool.eq_iff_iff]
    simp only [Bool.not_eq_true', decide_eq_false_iff_not, decide_eq_true_eq]
    omega
  rw [ec] at key
  exact key

/-- Go's own tables of characters are in place -/
def T8 (w : World) : Prop := Lib.Utf8Tabs 0 1 w
theorem T8.below {w w' : World} (h : T8 w) (hb : Below w.heap.size w w') : T8 w' := by
  refine ⟨fun c hc => ?_, fun i hi => ?_⟩
  · have h1 := h.1 c hc
    exact (hb.cell (p := ⟨0, c, none⟩) (World.block_lt_of_cell? w ⟨0, c, none⟩ h1)).trans h1
  · obtain ⟨h1, h2⟩ := h.2 i hi
    exact ⟨(hb.cell (p := ⟨1, 2 * i, none⟩) (World.block_lt_of_cell? w ⟨1, 2 * i, none⟩ h1)).trans h1,
      (hb.cell (p := ⟨1, 2 * i + 1, none⟩) (World.block_lt_of_cell? w ⟨1, 2 * i + 1, none⟩ h2)).trans h2⟩

theorem decode_walk (s : ByteArray) (i : Nat) (hi : i < s.size) (w : World) (hT : T8 w) :
    Calls Tryd.prog 52 #[.string (s.extract i s.size)] w fun e w' => e = .returned (.tuple #[.int .i32 (cAt s.data.toList i), .int .i64 (sAt s.data.toList i)]) ∧ Below w.heap.size w w' := by
  have h := Tryd.utf8_DecodeRuneInString (s.extract i s.size) w hT
  rw [decodeGo_tail s i hi, decode_eq] at h
  exact h
end Go.Proofs.YtffcfnnbdmihaaaDoor
