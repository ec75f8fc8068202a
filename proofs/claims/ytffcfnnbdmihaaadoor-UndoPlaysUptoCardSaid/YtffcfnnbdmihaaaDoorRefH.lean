/-
  THE REFERENCE's HISTORY (amanuensisref1.H): the predicate; Next, Do.
-/
import Derived.Test.YtffcfnnbdmihaaaDoorHist3N
import Derived.Test.YtffcfnnbdmihaaaDoorDoes
namespace Go.Proofs.YtffcfnnbdmihaaaDoor.hn
open Go.RowKit

def fints (l : List Int) : List Value := l.map fun n => .int .i64 n
def texts (l : List ByteArray) : List Value := l.map fun s => .string s
theorem fints_len (l : List Int) : (fints l).length = l.length := by simp [fints]
theorem texts_len (l : List ByteArray) : (texts l).length = l.length := by simp [texts]

/-- block r is the reference's history: texts, whence they come, where it is -/
def RefV (w : World) (base r : Nat) (v1 v2 : Value) (tx : List ByteArray) (fr : List Int) (a : Nat) : Prop :=
  Blk w r 78 #[v1, v2, .int .i64 a] ∧ base ≤ r ∧ w.ownsRow base 9 1 v1 tx.length (texts tx) ∧ w.ownsRow base 3 1 v2 fr.length (fints fr) ∧ fr.length = tx.length ∧ a < tx.length
/-- its blocks -/
def NB (r : Nat) (v1 v2 : Value) (k : Nat) : Prop := k = r ∨ v1.ownBlock = some k ∨ v2.ownBlock = some k
section
variable {w w' : World} {base r : Nat} {v1 v2 : Value} {tx : List ByteArray} {fr : List Int} {a : Nat}
theorem RefV.lt (h : RefV w base r v1 v2 tx fr a) : ∀ k, NB r v1 v2 k → k < w.heap.size := by
  obtain ⟨h1, h2, h3, h4, h5, h6⟩ := h
  intro k hk
  rcases hk with rfl | hk | hk
  · exact h1.lt
  · exact (h3.lt k hk).2
  · exact (h4.lt k hk).2
theorem RefV.keep (h : RefV w base r v1 v2 tx fr a) (hk : KeepN (NB r v1 v2) w w') : RefV w' base r v1 v2 tx fr a := by
  obtain ⟨h1, h2, h3, h4, h5, h6⟩ := h
  exact ⟨(hk r (.inl rfl)).trans h1, h2, own_of_block h3 fun k hk' => hk k (.inr (.inl hk')), own_of_block h4 fun k hk' => hk k (.inr (.inr hk')), h5, h6⟩
theorem RefV.below (h : RefV w base r v1 v2 tx fr a) (hb : Below w.heap.size w w') : RefV w' base r v1 v2 tx fr a := h.keep (KeepN.below h.lt hb)
theorem RefV.setAt (h : RefV w base r v1 v2 tx fr a) {n : Nat} (hn : n < tx.length) : RefV (w.setCell ⟨r, 2, none⟩ (.int .i64 n)) base r v1 v2 tx fr n := by
  obtain ⟨h1, h2, h3, h4, h5, h6⟩ := h
  refine ⟨h1.set_ 2 _, h2, own_of_block h3 fun k hk => Below.heap_setCell _ _ _ _ fun e => ?_, own_of_block h4 fun k hk => Below.heap_setCell _ _ _ _ fun e => ?_, h5, hn⟩
  · subst e; exact own_ne h3 h1 (by decide) hk.symm
  · subst e; exact own_ne h4 h1 (by decide) hk.symm
end
/-- what the reference does leaves the histories of package undo alone -/
theorem HistAt.other {N N' : Nat → Prop} {w w' : World} {base h : Nat} {l : List HV} {a : Nat} (H : HistAt N w base h l a) (hk : ∀ k, k < w.heap.size → ¬ N k → w'.heap[k]? = w.heap[k]?) (hN' : ∀ k, N' k → N k ∨ w.heap.size ≤ k) : HistAt N' w' base h l a := by
  obtain ⟨g, cap, hb, hB, ho, hn, hp, ha, hN⟩ := H
  have hlt := hb.lt
  have hg := (ho.lt g rfl).2
  have no : ∀ k, k < w.heap.size → ¬ N k → ¬ N' k := fun k h1 h2 h3 => by
    rcases hN' k h3 with h | h
    · exact h2 h
    · omega
  refine ⟨g, cap, (hk _ hlt hN.1).trans hb, hB, own_of_block ho fun k hk' => ?_, fun p hp' => own_of_block (hn p hp') fun k hk' => hk k ((hn p hp').lt k hk').2 (hN.2.2 p hp' k hk'), hp, ha, no _ hlt hN.1, no _ hg hN.2.1, fun p hp' k hk' => no _ ((hn p hp').lt k hk').2 (hN.2.2 p hp' k hk')⟩
  simp only [Value.ownBlock, Option.some.injEq] at hk'
  subst hk'
  exact hk _ hg hN.2.1

/-- the states that come from a state -/
def nextOf (fr : List Int) (a : Nat) (k : Nat) : List Nat := (List.range k).filter fun i => decide (fr.getD i 0 = (a : Int))
theorem nextOf_succ (fr : List Int) (a k : Nat) (hk : k < fr.length) : nextOf fr a (k + 1) = nextOf fr a k ++ if fr[k] = (a : Int) then [k] else [] := by
  unfold nextOf
  rw [List.range_succ, List.filter_append]
  have e : fr[k]?.getD 0 = fr[k] := by rw [List.getElem?_eq_getElem hk]; rfl
  by_cases h : fr[k] = (a : Int)
  · rw [if_pos h]; simp [e, h]
  · rw [if_neg h]; simp [e, h]
theorem nextOf_len (fr : List Int) (a k : Nat) : (nextOf fr a k).length ≤ k := by
  unfold nextOf
  have := List.length_filter_le (fun i => decide (fr.getD i 0 = (a : Int))) (List.range k)
  simpa using this

theorem fint_cell {w : World} {base : Nat} {v : Value} {fr : List Int} (h : w.ownsRow base 3 1 v fr.length (fints fr)) {k : Nat} (hk : k < fr.length) : ∃ g cap, v = .slice (some ⟨g, 0, none⟩) fr.length cap ∧ g < w.heap.size ∧ w.cell? ⟨g, k, none⟩ = some (.int .i64 fr[k]) := by
  obtain ⟨g, cap, hv, _, hlt⟩ := h.form (by omega)
  subst hv
  exact ⟨g, cap, rfl, hlt, own_cell h k _ (by simp [fints, hk])⟩

set_option maxHeartbeats 1000000 in
set_option maxRecDepth 100000 in
theorem rnext_walk (base r : Nat) (v1 v2 : Value) (tx : List ByteArray) (fr : List Int) (a : Nat) (w : World) (h : RefV w base r v1 v2 tx fr a) (hl : fr.length ≤ 1048576) :
    Calls Tryd.prog 39 #[.pointer (some ⟨r, 0, none⟩)] w fun e w' => ∃ v, e = .returned v ∧ w'.ownsRow w.heap.size 3 1 v (nextOf fr a fr.length).length (ints (nextOf fr a fr.length)) ∧ Below w.heap.size w w' := by
  obtain ⟨i0, ji, jz0, jz1, jz2⟩ := info_parts infoInt
  have hR := h
  obtain ⟨cap0, hv2⟩ : ∃ A, ∃ c, v2 = .slice A fr.length c := own_form h.2.2.2.1
  obtain ⟨cv2, hv2⟩ := hv2
  go_enter Tryd.func39, Tryd.ntmps39
  go_wp2_with fail
  go_loopw [3, 4] (fun v i wr => ∃ k : Nat, i = .int .i64 k ∧ k ≤ fr.length ∧ wr.ownsRow w.heap.size 3 1 v (nextOf fr a k).length (ints (nextOf fr a k)) ∧ Below w.heap.size w wr) (fun _ i _ => fr.length - (intOf i).toNat)
  case atStart => exact ⟨0, rfl, Nat.zero_le _, World.ownsRow_nil _ _ _ _, Below.refl _ _⟩
  case round =>
    obtain ⟨k, rfl, hk, hown, hb⟩ := hrel
    have hbs := hb.size
    obtain ⟨Av, cv, rfl⟩ := own_form hown
    have hRr := hR.below hb
    have r1 := hRr.1.cell 1
    have r2 := hRr.1.cell 2
    simp at r1 r2
    have hnl := nextOf_len fr a k
    by_cases hlt : k < fr.length
    · obtain ⟨g, cap, hv, hgl, hc⟩ := fint_cell hRr.2.2.2.1 hlt
      have Hs := Lib.hid (nextOf_succ fr a k hlt)
      rw [hv] at r1
      have i1 : (0 : Int) ≤ (k : Int) := by omega
      have i2 : (k : Int) < (fr.length : Int) := by omega
      clear hRr hR h hv hv2
      generalize nextOf fr a k = nl at *
      by_cases he : fr[k] = (a : Int)
      · have Hs2 : Hid (nextOf fr a (k + 1) = nl ++ [k]) := by show _ = _; rw [Hs.out, if_pos he]
        rw [he] at hc
        clear Hs he
        go_wp2_with fail
        go_quiet (fail)
        go_wp2_with (at_builtin; refine wpList_append_lies _ rfl _ _ 76 rfl w.heap.size 3 i0 _ 1 8 Tryd.underlying76 ji jz0 jz1 jz2 rfl (by omega) _ nl.length _ rfl (World.ownsRow.alloc (w := World.drewN wr _) hown _) ⟨wr.heap.size, 0, none⟩ 1 1 [.int .i64 k] rfl rfl (World.news_of_block (cs := #[.int .i64 k]) (t := 3) (fr := (0, 0)) (heap_alloc_new (World.drewN wr _) _)) (by simp [Value.oneCell']) (by omega) (by unfold maxLen; omega) (by omega) (by simp; omega) _ rfl ?_; intro gg cap' w3 hown3 hgrow hat hlt3)
        go_roundw
        case rel => exact ⟨k + 1, by go_num, by omega, by rw [Hs2.out, List.length_append]; simpa [ints] using hown3, ((below_drewN hb _).alloc (by simp; omega) _).grown hgrow (by simp; omega) fun g hg => (hown.lt g hg).1⟩
        case measure => simp [intOf]; omega
      · have Hs2 : Hid (nextOf fr a (k + 1) = nl) := by show _ = _; rw [Hs.out, if_neg he, List.append_nil]
        have d1 : (fr[k] == (a : Int)) = false := by simpa using he
        generalize fr[k] = f at *
        clear Hs he
        go_wp2_with fail
        go_quiet (fail)
        go_wp2_with fail
        go_roundw
        case rel => exact ⟨k + 1, by go_num, by omega, by rw [Hs2.out]; exact hown, below_drewN hb _⟩
        case measure => simp [intOf]; omega
    · obtain rfl : k = fr.length := by omega
      rw [hv2] at r1
      go_wp2_with fail
      go_ret
      exact ⟨_, rfl, hown, hb⟩
end Go.Proofs.YtffcfnnbdmihaaaDoor.hn
