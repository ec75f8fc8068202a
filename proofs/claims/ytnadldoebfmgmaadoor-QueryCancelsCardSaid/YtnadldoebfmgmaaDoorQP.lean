/-
  THE PLAIN LAW of QueryFew: what does not hang on a change is not run again.
-/
import Derived.Test.YtnadldoebfmgmaaDoorQV
import Derived.Test.YtnadldoebfmgmaaDoorQN
namespace Go.Proofs.YtnadldoebfmgmaaDoor.q

/-- what a setting keeps -/
structure Sets (s t : Sh) : Prop where
  len : t.cs.length = s.cs.length
  cel : ∀ j, t.at j = s.at j ∨ ∃ v, t.at j = { s.at j with n := v }
  lo : s.sets ≤ t.sets
  hi : t.sets ≤ s.sets + 1
  most : t.most = s.most
theorem set_sets (s : Sh) (k v : Int) : Sets s (setM s k v).1 := by
  have h0 : Sets s s := ⟨rfl, fun _ => .inl rfl, Int.le_refl _, by omega, rfl⟩
  unfold setM
  by_cases h : 0 ≤ k ∧ k < s.cs.length ∧ (s.at k.toNat).op = 0
  · rw [if_pos h]
    by_cases hn : (s.at k.toNat).n = v
    · rw [if_pos hn]; exact h0
    · rw [if_neg hn]
      refine ⟨upd_len, fun j => ?_, by show s.sets ≤ s.sets + 1; omega, Int.le_refl _, rfl⟩
      by_cases hj : k.toNat = j
      · subst hj; exact .inr ⟨v, upd_at_same (s := s) (by omega)⟩
      · exact .inl (upd_at_ne (s := s) hj)
  · rw [if_neg h]; exact h0
section
variable {s t : Sh}
theorem Sets.op (h : Sets s t) (j : Nat) : (t.at j).op = (s.at j).op ∧ (t.at j).runs = (s.at j).runs ∧ (t.at j).since = (s.at j).since ∧ (t.at j).busy = (s.at j).busy ∧ (t.at j).e = (s.at j).e ∧ (t.at j).looks = (s.at j).looks ∧ (t.at j).deps = (s.at j).deps := by
  rcases h.cel j with e | ⟨v, e⟩ <;> rw [e] <;> exact ⟨rfl, rfl, rfl, rfl, rfl, rfl, rfl⟩
theorem Sets.rest (h : Sets s t) {B : Nat} (hr : s.Rest B) (hn : ∀ j, I64 (t.at j).n) : t.Rest B := by
  refine ⟨⟨fun c hc => ?_, fun c hc x hx => ?_, fun c hc d hd => ?_, fun c hc => ?_⟩, fun j => by rw [(h.op j).2.2.2.1]; exact hr.busy j, by rw [h.len]; exact hr.small, by rw [h.most]; exact hr.neg, by rw [h.most]; exact hr.low, hn, fun j => by rw [(h.op j).2.1]; exact hr.runs j⟩
  all_goals obtain ⟨j, hj, rfl⟩ := mem_at hc
  all_goals rw [h.len] at hj
  · rw [(h.op j).1]; exact hr.ok.ops _ (at_mem hj)
  · rw [(h.op j).2.2.2.2.2.1] at hx; rw [h.len]; exact hr.ok.looks _ (at_mem hj) x hx
  · rw [(h.op j).2.2.2.2.2.2] at hd; rw [h.len]; exact hr.ok.deps _ (at_mem hj) d hd
  · rw [(h.op j).2.2.2.2.1]; exact hr.ok.errs _ (at_mem hj)
end
theorem set_num {s : Sh} {k v : Int} (h : ∀ j, I64 (s.at j).n) (hv : I64 v) : ∀ j, I64 ((setM s k v).1.at j).n := by
  unfold setM
  by_cases h1 : 0 ≤ k ∧ k < s.cs.length ∧ (s.at k.toNat).op = 0
  · rw [if_pos h1]
    by_cases h2 : (s.at k.toNat).n = v
    · rw [if_pos h2]; exact h
    · rw [if_neg h2]; exact upd_num (s := s) h hv
  · rw [if_neg h1]; exact h
theorem set_rest {s : Sh} {k v : Int} {B : Nat} (h : s.Rest B) (hv : I64 v) : (setM s k v).1.Rest B := (set_sets s k v).rest h (set_num h.num hv)

/-- k inputs are made numbers -/
def setTo (s : Sh) (f : List Int) : Nat → Sh
  | 0 => s
  | k + 1 => (setM (setTo s f k) k (f.getD k 0)).1
/-- k cells are asked for -/
def getTo (s : Sh) : Nat → Sh
  | 0 => s
  | k + 1 => (getM (getTo s k) k).1
/-- what settings of a new sheet leave -/
structure SetAll (s t : Sh) (k : Nat) : Prop where
  len : t.cs.length = s.cs.length
  op : ∀ j, (t.at j).op = (s.at j).op ∧ (t.at j).runs = (s.at j).runs ∧ (t.at j).since = (s.at j).since ∧ (t.at j).e = (s.at j).e
  lo : s.sets ≤ t.sets
  hi : t.sets ≤ s.sets + k
theorem setTo_all (s : Sh) (f : List Int) : ∀ k, SetAll s (setTo s f k) k
  | 0 => ⟨rfl, fun _ => ⟨rfl, rfl, rfl, rfl⟩, Int.le_refl _, by simp [setTo]⟩
  | k + 1 => by
    have ih := setTo_all s f k
    have h := set_sets (setTo s f k) k (f.getD k 0)
    have h1 := h.lo
    have h2 := h.hi
    have h3 := ih.lo
    have h4 := ih.hi
    refine ⟨h.len.trans ih.len, fun j => ?_, ?_, ?_⟩
    · obtain ⟨a1, a2, a3, _, a5, _⟩ := h.op j
      obtain ⟨b1, b2, b3, b4⟩ := ih.op j
      exact ⟨a1.trans b1, a2.trans b2, a3.trans b3, a5.trans b4⟩
    · show s.sets ≤ (setM _ _ _).1.sets; omega
    · show (setM _ _ _).1.sets ≤ _; omega
theorem setTo_rest {s : Sh} {f : List Int} {B : Nat} (h : s.Rest B) (hf : ∀ x ∈ f, I64 x) : ∀ k, k ≤ f.length → (setTo s f k).Rest B
  | 0, _ => h
  | k + 1, hk => set_rest (setTo_rest h hf k (by omega)) (by rw [List.getD_eq_getElem?_getD, List.getElem?_eq_getElem (by omega)]; exact hf _ (List.getElem_mem (by omega)))
theorem getTo_rest {s : Sh} {B : Nat} (h : s.Rest B) (hB : B ≤ 500000000000) : ∀ k, k ≤ 64 → (getTo s k).Rest (B + 64 * k) ∧ Keeps s (getTo s k)
  | 0, _ => ⟨h, Keeps.refl s⟩
  | k + 1, hk => by
    obtain ⟨h1, h2⟩ := getTo_rest h hB k (by omega)
    obtain ⟨g1, _, g3⟩ := get_rest (k := (k : Int)) h1 (by omega)
    exact ⟨g1.mono (by omega), h2.trans g3⟩
theorem getTo_fresh {s : Sh} {B : Nat} (h : s.Rest B) (hB : B ≤ 500000000000) : ∀ k, k ≤ 64 → k ≤ s.cs.length → ∀ j, j < k → (s.at j).op ≠ 0 → ((getTo s k).at j).since = s.sets
  | 0, _, _, j, hj, _ => by omega
  | k + 1, hk, hl, j, hj, ho => by
    obtain ⟨h1, h2⟩ := getTo_rest h hB k (by omega)
    have hlk : k < (getTo s k).cs.length := by rw [h2.len]; omega
    obtain ⟨_, _, g⟩ := bring_rest h1 (by omega) hlk
    have e : getTo s (k + 1) = (bringM 65 (getTo s k) k).1 := by
      show (getM (getTo s k) k).1 = _
      unfold getM; rw [if_pos (by omega)]; rfl
    rw [e]
    by_cases hjk : j = k
    · subst hjk
      rw [g.fresh (by rw [(h2.rule j).1]; exact ho) (h1.busy j), h2.sets]
    · have ih := getTo_fresh h hB k (by omega) (by omega) j (by omega) ho
      rw [g.keeps.still j (by rw [ih, h2.sets]), ih]
theorem keeps_same_runs {s t : Sh} (h : Keeps s t) {j : Nat} (hf : (s.at j).op ≠ 0 → (s.at j).since = s.sets) : (t.at j).runs = (s.at j).runs := by
  by_cases ho : (s.at j).op = 0
  · rw [h.input j ho]
  · rw [h.still j (hf ho)]

/-- how often rules have been run -/
def runsL (s : Sh) : List Int := s.cs.map Cel.runs
theorem runsL_get {s : Sh} {j : Nat} (h : j < s.cs.length) : (runsL s)[j]? = some (s.at j).runs := by
  have e2 : s.at j = s.cs[j] := by unfold Sh.at; rw [List.getD_eq_getElem?_getD, List.getElem?_eq_getElem h]; rfl
  unfold runsL
  rw [List.getElem?_map, List.getElem?_eq_getElem h, e2]; rfl
/-- the cells that must be: whatever comes of the checks -/
structure FewOk (l : List Ru) (s2 s5 : Sh) (was v : Int) (j : Nat) : Prop where
  u1 : 0 ≤ (s2.at j).runs ∧ (s2.at j).runs ≤ 1
  w1 : (s2.at j).runs ≤ (s5.at j).runs ∧ (s5.at j).runs ≤ (s2.at j).runs + 1
  same : was = v → (s5.at j).runs = (s2.at j).runs
  input : (hj : j < l.length) → l[j].op = 0 → (s5.at j).runs = 0
theorem few_law {l : List Ru} {first : List Int} {key v : Int} (hf : faultM l = 0) (hfi : ∀ x ∈ first, I64 x) (hv : I64 v)
    {s1 s2 s3 s4 s5 : Sh} {was : Int} (h1 : setTo (newS l) first first.length = s1) (h2 : getTo s1 l.length = s2) (h3 : (getM s2 key).1 = s3) (hw : (getM s2 key).2.1 = was) (h4 : (setM s3 key v).1 = s4) (he : (setM s3 key v).2 = 0) (h5 : getTo s4 l.length = s5) :
    ∀ j, j < l.length → FewOk l s2 s5 was v j := by
  intro j hj
  obtain ⟨f1, _⟩ := fault_zero hf
  have r0 := new_rest hf
  have l0 : (newS l).cs.length = l.length := by simp [newS]
  have a1 := setTo_all (newS l) first first.length
  have r1 := setTo_rest r0 hfi first.length (Nat.le_refl _)
  rw [h1] at a1 r1
  obtain ⟨r2, k2⟩ := getTo_rest r1 (by omega) l.length (by omega)
  have fr2 := getTo_fresh r1 (by omega) l.length (by omega) (by rw [a1.len, l0]; omega)
  rw [h2] at r2 k2 fr2
  obtain ⟨r3, _, k3⟩ := get_rest (k := key) r2 (by omega)
  have r4 := set_rest (k := key) (v := v) (by rw [h3] at r3; exact r3) hv
  rw [h3] at k3 r3
  rw [h4] at r4
  have a4 := set_sets s3 key v
  rw [h4] at a4
  obtain ⟨r5, k5⟩ := getTo_rest r4 (by omega) l.length (by omega)
  rw [h5] at r5 k5
  have n0 := new_at l j hj
  have ops1 : (s1.at j).op = l[j].op := by rw [(a1.op j).1, n0]; rfl
  have run1 : (s1.at j).runs = 0 := by rw [(a1.op j).2.1, n0]; rfl
  have fresh2 : (s2.at j).op ≠ 0 → (s2.at j).since = s2.sets := fun ho => by rw [fr2 j hj (by rw [← (k2.rule j).1]; exact ho), k2.sets]
  have run3 := keeps_same_runs k3 fresh2
  have run4 : (s4.at j).runs = (s2.at j).runs := by rw [(a4.op j).2.1, run3]
  have hu := k2.runs j
  have hk5 := k5.runs j
  refine ⟨by omega, by omega, fun hwv => ?_, fun _ ho => ?_⟩
  · -- the input is what it was: nothing has turned
    have hkey : 0 ≤ key ∧ key < s3.cs.length ∧ (s3.at key.toNat).op = 0 := by
      unfold setM at he
      by_cases h : 0 ≤ key ∧ key < s3.cs.length ∧ (s3.at key.toNat).op = 0
      · exact h
      · rw [if_neg h] at he; cases he
    obtain ⟨q1, q2, q3⟩ := hkey
    have l2 : s2.cs.length = l.length := by rw [k2.len, a1.len, l0]
    have hkn : key.toNat < l.length := by have := k3.len; omega
    have hin : (s2.at key.toNat).op = 0 := by rw [← (k3.rule _).1]; exact q3
    have e2 : (s2.at key.toNat).e = 0 := by
      rw [k2.input key.toNat (by rw [← (k2.rule _).1]; exact hin), (a1.op _).2.2.2, new_at l _ hkn]; rfl
    have hbr : bringM 65 s2 key.toNat = (s2, ((s2.at key.toNat).n, (s2.at key.toNat).e)) := by
      show bringM (64 + 1) s2 key.toNat = _
      unfold bringM; simp only []; rw [if_pos (.inl hin)]
    have hg : getM s2 key = (s2, ((s2.at key.toNat).n, 0)) := by
      unfold getM
      rw [if_pos (by omega), hbr]
      simp [e2]
    have e3 : s3 = s2 := by rw [← h3, hg]
    have ew : was = (s2.at key.toNat).n := by rw [← hw, hg]
    have e4 : s4 = s2 := by
      rw [← h4, e3]
      unfold setM
      rw [if_pos (by rw [← e3]; exact ⟨q1, q2, q3⟩), if_pos (by rw [← ew]; exact hwv)]
    rw [e4] at k5
    exact keeps_same_runs k5 fresh2
  · have o4 : (s4.at j).op = 0 := by rw [(a4.op j).1, (k3.rule j).1, (k2.rule j).1, ops1]; exact ho
    have o1 : (s1.at j).op = 0 := by rw [ops1]; exact ho
    rw [k5.input j o4, run4, k2.input j o1, run1]
end Go.Proofs.YtnadldoebfmgmaaDoor.q
