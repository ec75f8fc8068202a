/-
  strings.Builder, told in lists of bytes: WriteByte, WriteString, String.
-/
import Derived.Test.YtgpjcjnimheglaaGreatDoorBuilder
import Derived.Test.YtgpjcjnimheglaaGreatDoorTxt
namespace Go.Proofs.YtgpjcjnimheglaaGreatDoor
open Go.RowKit

/-- the builder at block b holds the bytes l -/
def IsB (B b : Nat) (l : Bs) (w : World) : Prop := Lib.IsBuilder 103 5 B b (Lib.byteCells l) w

set_option maxHeartbeats 2000000 in
set_option maxRecDepth 100000 in
theorem writeByte_any (B b : Nat) (bs : List Value) (c : Int) (w : World) (h : Lib.IsBuilder 103 5 B b bs w) (hlen : bs.length + 1 ≤ 140737488355328) (hBw : B ≤ w.heap.size) :
    Calls Tryz.prog 126 #[.pointer (some ⟨b, 0, none⟩), .int .u8 c] w fun e w' => e = .returned .nilIface ∧ (Lib.BuilderAt 103 5 B b (.pointer (some ⟨b, 0, none⟩)) (bs ++ [.int .u8 c]) w' ∧ Below B w w' ∧ KeepX [103, 5] w w') := by
  obtain ⟨i0, hi, hz0, hz1, hz2⟩ := info_parts bd_byte
  go_enter Tryz.func126, Tryz.ntmps126
  go_wp2_with (go_at_call 73; refine (copyCheck_any B b bs _ h).mono ?_)
  rintro e w1 ⟨rfl, h1, hb1, hk1⟩
  obtain ⟨hB, v, hbk, hown, hne⟩ := h1
  have c0 : w1.cell? ⟨b, 0, none⟩ = some (.pointer (some ⟨b, 0, none⟩)) := by rw [Lib.cell_of_heap hbk]; rfl
  have c1 : w1.cell? ⟨b, 1, none⟩ = some v := by rw [Lib.cell_of_heap hbk]; rfl
  go_wp2_with (at_builtin; refine wpList_append_own _ rfl _ _ 101 rfl B 5 i0 (.int .u8 0) 1 1 Tryz.underlying101 hi hz0 hz1 hz2 rfl (by decide) _ _ _ rfl (hown.alloc _) ⟨w1.heap.size, 0, none⟩ 1 1 [.int .u8 c] rfl rfl ?c1 ?c2 ?c3 ?c4 ?c5 ?_)
  case c1 =>
    intro j u hj
    match j, hj with
    | 0, hj => simp at hj; subst hj; simp [Addr.add]
  case c2 => intro u hu; simp at hu; subst hu; rfl
  case c3 => unfold maxLen; omega
  case c4 => omega
  case c5 => have := hb1.size; simp; omega
  intro v' w2 hown' hgrow _
  have hlt : b < w1.heap.size := by
    rcases Nat.lt_or_ge b w1.heap.size with h' | h'
    · exact h'
    · simp [Array.getElem?_eq_none h'] at hbk
  have hb2 : w2.heap[b]? = some (.cells #[.pointer (some ⟨b, 0, none⟩), v] 103 (0, 0)) := by
    rw [hgrow.block b (by simp; omega) (fun e => hne e.symm), Below.heap_alloc w1 _ b hlt]
    exact hbk
  have d0 : w2.cell? ⟨b, 0, none⟩ = some (.pointer (some ⟨b, 0, none⟩)) := by rw [Lib.cell_of_heap hb2]; rfl
  have d1 : w2.cell? ⟨b, 1, none⟩ = some v := by rw [Lib.cell_of_heap hb2]; rfl
  have f1 : w2.frozen? ⟨b, 1, none⟩ = false := Lib.frozen_of_heap hb2 1
  obtain ⟨g, cap, rfl⟩ : ∃ g cap, v' = .slice (some ⟨g, 0, none⟩) (bs.length + 1) cap := by
    rcases hown'.2 with ⟨_, h0⟩ | ⟨g, cap, cur, hv, _⟩
    · omega
    · exact ⟨g, cap, hv⟩
  go_wp2
  go_ret
  refine ⟨rfl, ?_, ?_, ?_⟩
  · exact Lib.BuilderAt.put (T := 103) (e := 5) hB hb2 (bs' := bs ++ [.int .u8 c]) (by simpa using hown') (by decide)
  · exact (((hb1.alloc (by have := hb1.size; omega) _).grown hgrow (by have := hb1.size; simp; omega) (fun k hk => (hown.lt k hk).1))).setCell (p := ⟨b, 1, none⟩) hB _
  · refine ((hk1.alloc _).grown hgrow fun g hg => ?_).setCell (p := ⟨b, 1, none⟩) hb2 (by simp) _
    obtain ⟨cs, fr, hh⟩ := own_ty hown g hg
    exact ⟨cs, _, fr, (Below.heap_alloc w1 _ g (lt_heap hh)).trans hh, by simp⟩

section
variable {B b : Nat} {l : Bs} {w : World}
theorem IsB.alloc (h : IsB B b l w) (o : Obj) : IsB B b l (w.alloc o) := bd_alloc h o
theorem IsB.drew (h : IsB B b l w) : IsB B b l w.drew := h
theorem IsB.drewN (h : IsB B b l w) (n : Nat) : IsB B b l (w.drewN n) := h
theorem IsB.lt (h : IsB B b l w) : b < w.heap.size := by
  rcases h with h | h <;> (obtain ⟨_, v, hb, _⟩ := h; exact lt_heap hb)
theorem IsB.keep (h : IsB B b l w) {w' : World} (hk : ∀ k, k < w.heap.size → B ≤ k → w'.heap[k]? = w.heap[k]?) : IsB B b l w' := by
  rcases h with h | h
  · obtain ⟨h1, v, hb, hown, hne⟩ := h
    exact .inl ⟨h1, v, (hk b (lt_heap hb) h1).trans hb, own_of_block hown fun k hv => hk k (hown.lt k hv).2 (hown.lt k hv).1, hne⟩
  · obtain ⟨h1, v, hb, hown, hne⟩ := h
    exact .inr ⟨h1, v, (hk b (lt_heap hb) h1).trans hb, own_of_block hown fun k hv => hk k (hown.lt k hv).2 (hown.lt k hv).1, hne⟩
theorem IsB.below' (h : IsB B b l w) {w' : World} (hb : Below w.heap.size w w') : IsB B b l w' := h.keep fun k hk _ => hb.block k hk
theorem IsB.fresh (w : World) : IsB w.heap.size w.heap.size [] (w.alloc (.cells #[.pointer none, .slice none 0 0] 103)) := Lib.fresh_isBuilder _ _ _
theorem writeByte_walk (h : IsB B b l w) (c : UInt8) (hlen : l.length + 1 ≤ 140737488355328) (hBw : B ≤ w.heap.size) :
    Calls Tryz.prog 126 #[.pointer (some ⟨b, 0, none⟩), .int .u8 c.toNat] w fun e w' => e = .returned .nilIface ∧ IsB B b (l ++ [c]) w' ∧ Below B w w' ∧ KeepX [103, 5] w w' :=
  (writeByte_any B b _ c.toNat w h (by rw [Lib.byteCells_length]; omega) hBw).mono fun e w' ⟨h1, h2, h3, h4⟩ => ⟨h1, .inr (by rw [Lib.byteCells_append]; exact h2), h3, h4⟩
theorem writeStr_walk (h : IsB B b l w) (x : Bs) (hlen : l.length + x.length ≤ 140737488355328) (hBw : B ≤ w.heap.size) :
    Calls Tryz.prog 43 #[.pointer (some ⟨b, 0, none⟩), .string ⟨x.toArray⟩] w fun e w' => e = .returned (.tuple #[.int .i64 x.length, .nilIface]) ∧ IsB B b (l ++ x) w' ∧ Below B w w' ∧ KeepX [103, 5] w w' :=
  (writeString_any B b _ ⟨x.toArray⟩ w h (by rw [Lib.byteCells_length, mk_size]; omega) hBw).mono fun e w' ⟨h1, h2, h3, h4⟩ => ⟨by rw [h1, mk_size], .inr (by rw [Lib.byteCells_append]; exact h2), h3, h4⟩
theorem bString_walk (h : IsB B b l w) (hBw : B ≤ w.heap.size) :
    Calls Tryz.prog 44 #[.pointer (some ⟨b, 0, none⟩)] w fun e w' => e = .returned (.string ⟨l.toArray⟩) ∧ Below B w w' := Tryz.Builder_String_any B b l w h hBw
end
end Go.Proofs.YtgpjcjnimheglaaGreatDoor
