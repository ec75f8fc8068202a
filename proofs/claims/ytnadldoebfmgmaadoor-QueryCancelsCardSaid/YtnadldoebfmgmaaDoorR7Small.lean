/-
  THE REFERENCE OF SHEETS (amanuensisref7): New's contract, low, looks, Set.
-/
import Derived.Test.YtnadldoebfmgmaaDoorR7New
namespace Go.Proofs.YtnadldoebfmgmaaDoor.q
open Go.RowKit

theorem made_toList (zs : Array Value) (k : Nat) : (madeCells zs k).toList = (List.range k).map fun i => zs[i % zs.size]! := by
  unfold madeCells; simp
theorem oCells_len (vs : List Int) : (oCells vs).length = vs.length * 2 := by
  induction vs with
  | nil => rfl
  | cons a l ih => simp only [oCells, List.flatMap_cons, List.length_append, List.length_cons] at *; rw [ih]; simp; omega
theorem oCells_get (l : List Int) (k j : Nat) (hj : j < 2) (hk : k < l.length) : (oCells l)[k * 2 + j]? = ([.int .i64 l[k], .bool false] : List Value)[j]? := by
  induction l generalizing k with
  | nil => simp at hk
  | cons a l ih =>
    cases k with
    | zero => simp only [oCells, List.flatMap_cons]; rw [List.getElem?_append_left (by simp; omega)]; simp
    | succ k =>
      simp only [oCells, List.flatMap_cons]
      rw [List.getElem?_append_right (by simp; omega)]
      have e : (k + 1) * 2 + j - ([.int .i64 a, .bool false] : List Value).length = k * 2 + j := by simp; omega
      rw [e]
      have := ih k (by simpa using hk)
      simpa [oCells] using this
theorem made_o (n : Nat) : (madeCells #[.int .i64 0, .bool false] (n * 2)).toList = oCells (List.replicate n 0) := by
  rw [made_toList]
  apply List.ext_getElem?
  intro i
  by_cases hi : i < n * 2
  · have h := oCells_get (List.replicate n 0) (i / 2) (i % 2) (Nat.mod_lt _ (by omega)) (by simp; omega)
    rw [show i / 2 * 2 + i % 2 = i from by omega] at h
    rw [h, List.getElem?_map, List.getElem?_range hi]
    have h2 : i % 2 = 0 ∨ i % 2 = 1 := by omega
    rcases h2 with h2 | h2 <;> simp [h2]
  · rw [List.getElem?_eq_none (by simp; omega), List.getElem?_eq_none (by rw [oCells_len]; simp; omega)]
theorem made_b (n : Nat) : (madeCells #[.bool false] (n * 1)).toList = List.replicate n (.bool false) := by rw [Nat.mul_one]; exact toList_madeCells_one _ _
theorem RowN.own {w : World} {H n size : Nat} {e : TypeId} {zs : Array Value} {v : Value} {H1 : Nat} (h : RowN w H n e (madeCells zs (n * size)) v) (hH : H1 ≤ H) (hn : n ≤ 1048576) : w.ownsRow H1 e size v n (madeCells zs (n * size)).toList := by
  obtain ⟨g, rfl, h2, h3⟩ := h
  refine ⟨by rw [Array.length_toList, size_madeCells], .inr ⟨g, n, _, rfl, by omega, h2, Nat.le_refl _, by unfold maxLen; omega, size_madeCells _ _, ?_⟩⟩
  rw [List.take_of_length_le]
  rw [Array.length_toList, size_madeCells]; exact Nat.le_refl _

theorem ref_new (A : Option Addr) (c : Nat) (l : List Ru) (w : World) (H1 : Nat) (hown : w.ownsRow H1 83 4 (.slice A l.length c) l.length (ruCells l)) (hz : H1 ≤ w.heap.size) (hn : l.length ≤ 1048576) :
    Calls Tryd.prog 19 #[.slice A l.length c] w fun e w' => ∃ rp, e = .returned (.pointer (some ⟨rp, 0, none⟩)) ∧ Ref w' H1 w'.heap.size rp l (List.replicate l.length 0) ∧ Below w.heap.size w w' := by
  refine (new7_walk A c l w hn).mono ?_
  rintro e w' ⟨h, ⟨v, rfl⟩, hb⟩
  obtain ⟨rp, vI, vF, x2, x3, x4, x6, x7, e1, hrp, bS, b2, b10⟩ := r7_17.1 h
  simp only at e1
  have hR := own_of_block hown fun k hk => hb.block k (hown.lt k hk).2
  have hI : w'.ownsRow H1 35 2 vI l.length (oCells (List.replicate l.length 0)) := by rw [← made_o]; exact b2.own hz hn
  have hF : w'.ownsRow H1 4 1 vF l.length (List.replicate l.length (.bool false)) := by rw [← made_b]; exact b10.own hz hn
  exact ⟨rp, by rw [e1], ⟨_, vI, vF, x2, x3, x4, x6, x7, bS, hR, hI, hF, by omega, bS.lt, fun k hk => (hR.lt k hk).2, fun k hk => (hI.lt k hk).2, fun k hk => (hF.lt k hk).2, by simp⟩, hb⟩

set_option maxRecDepth 100000 in
theorem low_walk (n m : Int) (w : World) (hm : 0 < m) (hm2 : m ≤ 1000003) (h : I64 n) : Calls Tryd.prog 24 #[.int .i64 n, .int .i64 m] w fun e w' => e = .returned (.int .i64 (lowR n m)) ∧ w = w' := by
  have hb := tmod_bd n m hm
  obtain ⟨h1, h2⟩ := h
  by_cases hl : n.tmod m < 0
  · have e : lowR n m = n.tmod m + m := by unfold lowR; rw [if_pos hl]
    rw [e]
    have d : decide (n.tmod m < 0) = true := by simpa using hl
    clear e
    go_enter Tryd.func24, Tryd.ntmps24
    go_wp2
    go_ret
    exact ⟨rfl, rfl⟩
  · have e : lowR n m = n.tmod m := by unfold lowR; rw [if_neg hl]
    rw [e]
    have d : decide (n.tmod m < 0) = false := by simpa using hl
    clear e
    go_enter Tryd.func24, Tryd.ntmps24
    go_wp2
    go_ret
    exact ⟨rfl, rfl⟩
set_option maxRecDepth 100000 in
theorem ring_walk (n : Int) (b : Bool) (w : World) : Calls Tryd.prog 10 #[.agg #[.int .i64 n, .bool b]] w fun e w' => e = .returned (.int .i64 (if b = true then 7 else 0)) ∧ Below w.heap.size w w' := by
  cases b with
  | true =>
    go_enter Tryd.func10, Tryd.ntmps10
    go_wp2
    go_ret
    exact ⟨rfl, (Below.refl _ _).alloc (Nat.le_refl _) _⟩
  | false =>
    go_enter Tryd.func10, Tryd.ntmps10
    go_wp2
    go_ret
    exact ⟨rfl, (Below.refl _ _).alloc (Nat.le_refl _) _⟩
def looksR (op : Int) : Int := if op = 0 then 0 else if op = 1 ∨ op = 2 ∨ op = 3 then 2 else if op = 4 then 3 else if op = 5 then 1 else -1
set_option maxRecDepth 100000 in
theorem looksR_walk (op : Int) (w : World) : Calls Tryd.prog 31 #[.int .i64 op] w fun e w' => e = .returned (.int .i64 (looksR op)) ∧ w = w' := by
  have hc : op = 0 ∨ op = 1 ∨ op = 2 ∨ op = 3 ∨ op = 4 ∨ op = 5 ∨ (op ≠ 0 ∧ op ≠ 1 ∧ op ≠ 2 ∧ op ≠ 3 ∧ op ≠ 4 ∧ op ≠ 5) := by omega
  rcases hc with rfl | rfl | rfl | rfl | rfl | rfl | ⟨h0, h1, h2, h3, h4, h5⟩
  · go_enter Tryd.func31, Tryd.ntmps31
    go_wp2
    go_ret
    exact ⟨rfl, rfl⟩
  · go_enter Tryd.func31, Tryd.ntmps31
    go_wp2
    go_ret
    exact ⟨rfl, rfl⟩
  · go_enter Tryd.func31, Tryd.ntmps31
    go_wp2
    go_ret
    exact ⟨rfl, rfl⟩
  · go_enter Tryd.func31, Tryd.ntmps31
    go_wp2
    go_ret
    exact ⟨rfl, rfl⟩
  · go_enter Tryd.func31, Tryd.ntmps31
    go_wp2
    go_ret
    exact ⟨rfl, rfl⟩
  · go_enter Tryd.func31, Tryd.ntmps31
    go_wp2
    go_ret
    exact ⟨rfl, rfl⟩
  · have e : looksR op = -1 := by unfold looksR; simp [h0, h1, h2, h3, h4, h5]
    rw [e]
    have e0 : (op == 0) = false := by simpa using h0
    have e1 : (op == 1) = false := by simpa using h1
    have e2 : (op == 2) = false := by simpa using h2
    have e3 : (op == 3) = false := by simpa using h3
    have e4 : (op == 4) = false := by simpa using h4
    have e5 : (op == 5) = false := by simpa using h5
    clear e h0 h1 h2 h3 h4 h5
    go_enter Tryd.func31, Tryd.ntmps31
    go_wp2
    go_ret
    exact ⟨rfl, rfl⟩
end Go.Proofs.YtnadldoebfmgmaaDoor.q
