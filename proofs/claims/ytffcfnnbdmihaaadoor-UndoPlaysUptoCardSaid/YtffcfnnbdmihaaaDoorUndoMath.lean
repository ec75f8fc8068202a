/-
  THE PLAIN LAW of UndoPlays: how the two histories answer to each other.
-/
import Derived.Test.YtffcfnnbdmihaaaDoorRefH
namespace Go.Proofs.YtffcfnnbdmihaaaDoor.hn
open Go.RowKit

/-- the history's states are the reference's texts and origins -/
structure Link (l : List HV) (tx : List ByteArray) (fr : List Int) (M : Nat) : Prop where
  texts : l.map HV.text = tx
  frs : l.map HV.fr = fr
  nxs : ∀ (i : Nat) (x : HV), l[i]? = some x → x.nx = nextOf fr i fr.length
  val : ∀ f ∈ fr, f = -1 ∨ ∃ n : Nat, f = n ∧ n < fr.length
  siz : ∀ t ∈ tx, t.size ≤ M

section
variable {l : List HV} {tx : List ByteArray} {fr : List Int} {M : Nat}
theorem Link.len (h : Link l tx fr M) : l.length = tx.length ∧ fr.length = l.length := ⟨by rw [← h.texts]; simp, by rw [← h.frs]; simp⟩
theorem Link.at_ (h : Link l tx fr M) {a : Nat} (ha : a < l.length) : ∃ x, l[a]? = some x ∧ tx[a]? = some x.text ∧ fr[a]? = some x.fr ∧ x.nx = nextOf fr a fr.length ∧ x.text.size ≤ M := by
  have hx : l[a]? = some l[a] := List.getElem?_eq_getElem ha
  have ht : tx[a]? = some l[a].text := by rw [← h.texts, List.getElem?_map, hx]; rfl
  exact ⟨l[a], hx, ht, by rw [← h.frs, List.getElem?_map, hx]; rfl, h.nxs a _ hx, h.siz _ (List.mem_of_getElem? ht)⟩
theorem Link.more (h : Link l tx fr M) {M' : Nat} (hM : M ≤ M') : Link l tx fr M' := ⟨h.texts, h.frs, h.nxs, h.val, fun t ht => Nat.le_trans (h.siz t ht) hM⟩
theorem nextOf_append (fr : List Int) (f : Int) (i k : Nat) (hk : k ≤ fr.length) : nextOf (fr ++ [f]) i k = nextOf fr i k := by
  unfold nextOf
  apply List.filter_congr
  intro j hj
  have : j < fr.length := by have := List.mem_range.1 hj; omega
  simp [List.getElem?_append_left this]
theorem nextOf_push (fr : List Int) (a i : Nat) : nextOf (fr ++ [(a : Int)]) i (fr ++ [(a : Int)]).length = nextOf fr i fr.length ++ if a = i then [fr.length] else [] := by
  have h1 : (fr ++ [(a : Int)]).length = fr.length + 1 := by simp
  rw [h1, nextOf_succ _ _ _ (by omega), nextOf_append _ _ _ _ (Nat.le_refl _)]
  congr 1
  simp only [List.getElem_concat_length, Int.natCast_inj]
theorem nextOf_lt {fr : List Int} {a k n : Nat} (h : n ∈ nextOf fr a k) : n < k := by
  unfold nextOf at h
  exact List.mem_range.1 (List.mem_filter.1 h).1
theorem nextOf_far (fr : List Int) (i k : Nat) (hk : k ≤ fr.length) (h : ∀ f ∈ fr, f ≠ (i : Int)) : nextOf fr i k = [] := by
  unfold nextOf
  rw [List.filter_eq_nil_iff]
  intro j hj
  have hj' : j < fr.length := by have := List.mem_range.1 hj; omega
  have := h fr[j] (List.getElem_mem hj')
  simpa [List.getElem?_eq_getElem hj'] using this
theorem link_new (x : ByteArray) (v : Value) : Link [⟨x, -1, [], v⟩] [x] [-1] x.size := by
  refine ⟨rfl, rfl, ?_, ?_, ?_⟩
  · intro i y hy
    cases i with
    | zero => simp at hy; subst hy; simp [nextOf]
    | succ i => simp at hy
  · intro f hf; simp at hf; exact .inl hf
  · intro t ht; simp at ht; subst ht; exact Nat.le_refl _
theorem Link.push (h : Link l tx fr M) {a : Nat} {x : HV} (hx : l[a]? = some x) {S : ByteArray} {M' : Nat} (hM : M ≤ M') (hS : S.size ≤ M') (u v : Value) :
    Link (l.set a { x with nx := x.nx ++ [l.length], v := v } ++ [⟨S, a, [], u⟩]) (tx ++ [S]) (fr ++ [(a : Int)]) M' := by
  obtain ⟨h1, h2⟩ := h.len
  have ha : a < l.length := (List.getElem?_eq_some_iff.1 hx).1
  have hxe : l[a] = x := by rw [List.getElem?_eq_getElem ha] at hx; exact Option.some.inj hx
  have hmt : (l.set a { x with nx := x.nx ++ [l.length], v := v }).map HV.text = l.map HV.text := by
    rw [List.map_set]
    have : (l.map HV.text)[a]'(by simpa using ha) = x.text := by simp [hxe]
    rw [← this, List.set_getElem_self]
  have hmf : (l.set a { x with nx := x.nx ++ [l.length], v := v }).map HV.fr = l.map HV.fr := by
    rw [List.map_set]
    have : (l.map HV.fr)[a]'(by simpa using ha) = x.fr := by simp [hxe]
    rw [← this, List.set_getElem_self]
  refine ⟨by rw [List.map_append, hmt, h.texts]; rfl, by rw [List.map_append, hmf, h.frs]; rfl, ?_, ?_, ?_⟩
  · intro i y hy
    rw [nextOf_push]
    rw [List.getElem?_append] at hy
    split at hy
    · rename_i hi
      rw [List.getElem?_set] at hy
      split at hy
      · rename_i e
        subst e
        obtain rfl := Option.some.inj hy
        rw [if_pos rfl, ← h.nxs _ _ hx, h2]
      · rename_i e
        rw [if_neg e, List.append_nil]
        exact h.nxs _ _ hy
    · rename_i hi
      simp at hi
      have hi2 : i = l.length := by
        have := (List.getElem?_eq_some_iff.1 hy).1
        simp at this
        omega
      subst hi2
      simp at hy
      subst hy
      rw [if_neg (by omega), List.append_nil, nextOf_far _ _ _ (Nat.le_refl _)]
      intro f hf
      rcases h.val f hf with h | ⟨n, h, hn⟩ <;> omega
  · intro f hf
    rcases List.mem_append.1 hf with hf | hf
    · rcases h.val f hf with h | ⟨n, h, hn⟩
      · exact .inl h
      · exact .inr ⟨n, h, by simp; omega⟩
    · simp at hf
      exact .inr ⟨a, hf, by simp; omega⟩
  · intro t ht
    rcases List.mem_append.1 ht with ht | ht
    · exact Nat.le_trans (h.siz t ht) hM
    · simp at ht; subst ht; exact hS
end
end Go.Proofs.YtffcfnnbdmihaaaDoor.hn
