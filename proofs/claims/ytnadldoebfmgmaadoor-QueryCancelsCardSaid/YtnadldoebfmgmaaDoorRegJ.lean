/-
  A REGION THAT DRAWS ITS ORDER, by an invariant: J of what is listed, the frame and the world; each operation that is ready keeps it.
-/
import Derived.Test.YtnadldoebfmgmaaDoorBase
import Derived.Deep.RegionHeld3
namespace Go.Proofs.YtnadldoebfmgmaaDoor
open Go.RowKit
section
variable {P : Program} {ops : Array Oper} {Q : Exit → Act → World → Prop} {md : Region.Mode}
def unl (listed : Array Bool) : Nat := listed.toList.countP fun b => !b
theorem unl_set {listed : Array Bool} {i : Nat} (h : listed.getD i true = false) : unl (listed.setIfInBounds i true) + 1 = unl listed := by
  have hi : i < listed.size := by
    rcases Nat.lt_or_ge i listed.size with h' | h'
    · exact h'
    · simp [Array.getD_eq_getD_getElem?, Array.getElem?_eq_none h'] at h
  obtain ⟨l⟩ := listed
  simp only [Array.getD_eq_getD_getElem?, List.getElem?_toArray, List.size_toArray] at h hi
  unfold unl
  simp only [List.setIfInBounds_toArray]
  induction l generalizing i with
  | nil => simp at hi
  | cons b l ih =>
    cases i with
    | zero =>
      have hb : b = false := by simpa using h
      subst hb
      simp
    | succ i =>
      have := ih (i := i) (by simpa using h) (by simpa using hi)
      simp only [List.set_cons_succ, List.countP_cons]
      omega
theorem any_J (J : Array Bool → Act → World → Prop) (hs : ∀ listed a w, J listed a w → ∀ i ∈ Region.ready md ops listed, wpOp P ops Q i (fun a' w' => J (listed.setIfInBounds i true) a' w') a w)
    (he : ∀ listed a w, J listed a w → Region.ready md ops listed = [] → Q .normal a w) : ∀ (fuel : Nat) (listed : Array Bool) (a : Act) (w : World), J listed a w → unl listed ≤ fuel → wpAny P md ops Q fuel listed a w
  | 0, listed, a, w, hJ, hu => by
    have hr : Region.ready md ops listed = [] := by
      cases h : Region.ready md ops listed with
      | nil => rfl
      | cons i r =>
        have hi : i ∈ Region.ready md ops listed := by rw [h]; exact List.mem_cons_self ..
        have := unl_set (mem_ready.1 hi).1
        omega
    exact ⟨hr, he listed a w hJ hr⟩
  | fuel + 1, listed, a, w, hJ, hu => ⟨fun hr => he listed a w hJ hr, fun i hi => wpOp_mono (fun a' w' h => any_J J hs he fuel _ a' w' h (by have := unl_set (mem_ready.1 hi).1; omega)) (hs listed a w hJ i hi)⟩
/-- each operation waits for earlier ones alone -/
def backward (ops : Array Oper) : Bool := (List.range ops.size).all fun j => ((ops[j]?).map fun o => o.after.all fun e => decide (e.on < j)).getD true
theorem all_listed {listed : Array Bool} (hb : backward ops = true) (hr : Region.ready md ops listed = []) (hsz : listed.size = ops.size) : ∀ j, j < ops.size → listed.getD j false = true := by
  intro j
  induction j using Nat.strongRecOn with
  | _ j ih =>
    intro hj
    cases hl : listed.getD j false with
    | true => rfl
    | false =>
      have hl' : listed.getD j true = false := by
        rw [Array.getD_eq_getD_getElem?, Array.getElem?_eq_getElem (by omega)] at hl ⊢; exact hl
      have hm : j ∈ Region.ready md ops listed := by
        refine mem_ready.2 ⟨hl', ops[j], Array.getElem?_eq_getElem hj, fun e he _ => ?_⟩
        have h1 := List.all_eq_true.1 hb j (List.mem_range.2 hj)
        rw [Array.getElem?_eq_getElem hj] at h1
        simp only [Option.map_some, Option.getD_some, Array.all_eq_true_iff_forall_mem, decide_eq_true_eq] at h1
        have h2 := h1 e he
        exact ih e.on h2 (by omega)
      rw [hr] at hm; cases hm
end
end Go.Proofs.YtnadldoebfmgmaaDoor
