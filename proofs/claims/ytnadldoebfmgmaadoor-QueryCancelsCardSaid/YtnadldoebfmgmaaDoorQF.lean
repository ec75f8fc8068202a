/-
  SHEETS, plainly: a bringing keeps to the machine's numbers.
-/
import Derived.Test.YtnadldoebfmgmaaDoorQG
namespace Go.Proofs.YtnadldoebfmgmaaDoor.q

def I64 (n : Int) : Prop := -9223372036854775808 ≤ n ∧ n ≤ 9223372036854775807
/-- what fits the machine's numbers -/
structure Sh.Fits (s : Sh) : Prop where
  small : s.cs.length ≤ 1048576
  neg : s.most < 0
  low : -4611686018427387904 ≤ s.most - s.phi
  num : ∀ j, I64 (s.at j).n
  runs : ∀ j, 0 ≤ (s.at j).runs ∧ (s.at j).runs + (if (s.at j).open_ s.sets then 1 else 0) ≤ 4611686018427387904

theorem posM_bd (n m : Int) (hm : 0 < m) : 0 ≤ posM n m ∧ posM n m < m := by
  unfold posM
  exact ⟨Int.emod_nonneg _ (by omega), Int.emod_lt_of_pos _ hm⟩
theorem reckon_i64 {op n0 n1 : Int} (h1 : I64 n1) : I64 (reckonM op n0 n1) := by
  unfold reckonM I64
  have a1 := posM_bd (posM n0 1000003 + posM n1 1000003) 1000003 (by omega)
  have a2 := posM_bd (posM n0 1000003 * posM n1 1000003) 1000003 (by omega)
  have a3 := posM_bd n0 4 (by omega)
  have := h1.1
  have := h1.2
  split
  · omega
  · split
    · omega
    · split
      · split <;> omega
      · split <;> omega
theorem i64_0 : I64 0 := ⟨by omega, by omega⟩
theorem upd_num {s : Sh} {k : Nat} {f : Cel → Cel} (h : ∀ j, I64 (s.at j).n) (hf : I64 (f (s.at k)).n) : ∀ j, I64 ((s.upd k f).at j).n := by
  intro j
  by_cases hkj : k = j
  · subst hkj
    rcases Nat.lt_or_ge k s.cs.length with hk | hk
    · rw [upd_at_same hk]; exact hf
    · have e : (s.upd k f).at k = s.at k := by
        unfold Sh.upd Sh.at
        simp only [List.getD_eq_getElem?_getD]
        rw [List.getElem?_eq_none hk, List.getElem?_eq_none (by simpa using hk)]
      rw [e]; exact h k
  · rw [upd_at_ne hkj]; exact h j
def NumOk (br : Sh → Nat → Sh × (Int × Int)) : Prop := ∀ s k, (∀ j, I64 (s.at j).n) → (∀ j, I64 ((br s k).1.at j).n) ∧ I64 (br s k).2.1
theorem check_num {br : Sh → Nat → Sh × (Int × Int)} (hb : NumOk br) : ∀ (l : List Dep) (s : Sh) (again : Bool), (∀ j, I64 (s.at j).n) → ∀ j, I64 ((checkM br s l again).1.at j).n := by
  intro l
  induction l with
  | nil => intro s _ h; exact h
  | cons d r ih =>
    intro s again h
    unfold checkM
    by_cases he : (br s d.c).2.1 = d.n ∧ (br s d.c).2.2 = d.e
    · simp only [he, and_self, if_true]
      exact ih _ _ (hb s d.c h).1
    · simp only [he, if_false]
      exact (hb s d.c h).1
theorem beg_num {s : Sh} {k : Nat} (h : ∀ j, I64 (s.at j).n) : ∀ j, I64 ((begM s k).at j).n := upd_num (s := s) (f := fun c => { c with runs := c.runs + 1, once := true }) h (h k)
theorem run_num {br : Sh → Nat → Sh × (Int × Int)} (hb : NumOk br) {s : Sh} {k : Nat} (h : ∀ j, I64 (s.at j).n) : ∀ j, I64 ((runM br s k).at j).n := by
  have h1 := hb (begM s k) (s.at k).a.toNat (beg_num h)
  unfold runM
  simp only
  generalize br (begM s k) (s.at k).a.toNat = x at *
  by_cases he : x.2.2 ≠ 0
  · rw [if_pos he]
    exact upd_num h1.1 i64_0
  · rw [if_neg he]
    by_cases h5 : (s.at k).op = 5
    · rw [if_pos h5]
      exact upd_num h1.1 (by exact (reckon_i64 (op := 5) (n0 := x.2.1) i64_0))
    · rw [if_neg h5]
      generalize (if (s.at k).op = 4 ∧ x.2.1 = 0 then (s.at k).c else (s.at k).b) = nx
      have h2 := hb x.1 nx.toNat h1.1
      generalize br x.1 nx.toNat = y at *
      by_cases he2 : y.2.2 ≠ 0
      · rw [if_pos he2]; exact upd_num h2.1 i64_0
      · rw [if_neg he2]; exact upd_num h2.1 (by exact (reckon_i64 (op := (s.at k).op) (n0 := x.2.1) h2.2))
theorem bring_num : ∀ f, NumOk (bringM f) := by
  intro f
  induction f with
  | zero => intro s k h; exact ⟨h, h k⟩
  | succ f ih =>
    intro s k h
    unfold bringM
    simp only
    split
    · exact ⟨h, h k⟩
    · split
      · exact ⟨h, i64_0⟩
      · have h1 := check_num ih (s.at k).deps (s.upd k fun c => { c with busy := true }) (!(s.at k).ran) (upd_num h (h k))
        generalize checkM (bringM f) (s.upd k fun c => { c with busy := true }) (s.at k).deps (!(s.at k).ran) = x at *
        have h2 : ∀ j, I64 ((if x.2 = true then runM (bringM f) x.1 k else x.1).at j).n := by
          split
          · exact run_num ih h1
          · exact h1
        generalize (if x.2 = true then runM (bringM f) x.1 k else x.1) = y at *
        have h3 : ∀ j, I64 ((y.upd k fun c => { c with since := s.sets, busy := false }).at j).n := upd_num h2 (h2 k)
        exact ⟨h3, h3 k⟩
theorem keeps_runs {s t : Sh} (h : Keeps s t) (hr : ∀ j, 0 ≤ (s.at j).runs ∧ (s.at j).runs + (if (s.at j).open_ s.sets then 1 else 0) ≤ 4611686018427387904) :
    ∀ j, 0 ≤ (t.at j).runs ∧ (t.at j).runs + (if (t.at j).open_ t.sets then 1 else 0) ≤ 4611686018427387904 := by
  intro j
  have h0 := hr j
  have hop : (t.at j).open_ t.sets = true → (s.at j).open_ s.sets = true := fun hj => by
    unfold Cel.open_ at hj ⊢
    rw [(h.rule j).1, h.busy j, h.sets] at hj
    simp only [Bool.and_eq_true, decide_eq_true_eq, Bool.not_eq_true'] at hj ⊢
    refine ⟨hj.1, fun e => hj.2 ?_⟩
    rw [h.still j e, e]
  rcases h.runs j with h1 | ⟨h1, h2, h3, h4⟩
  · rw [h1]
    refine ⟨h0.1, ?_⟩
    by_cases ht : (t.at j).open_ t.sets = true
    · rw [if_pos ht]; rw [if_pos (hop ht)] at h0; exact h0.2
    · rw [if_neg ht]; have := h0.2; split at this <;> omega
  · have hb : (s.at j).busy = false := by
      cases hb : (s.at j).busy with
      | false => rfl
      | true => have := h.held j hb; rw [this] at h1; omega
    have ho : (s.at j).open_ s.sets = true := by unfold Cel.open_; simp [hb, h2, h3]
    have hn : ¬ (t.at j).open_ t.sets = true := by unfold Cel.open_; rw [h4, h.sets]; simp
    rw [if_pos ho] at h0
    rw [h1, if_neg hn]
    omega
theorem bring_fits {f : Nat} {s : Sh} {k : Nat} (ok : s.Ok) (ft : s.Fits) (hk : k < s.cs.length) (hf : s.phi < f) : (bringM f s k).1.Fits ∧ I64 (bringM f s k).2.1 := by
  have g := bring_good f s k ok hk hf
  have hn := bring_num f s k ft.num
  have := g.most1
  have := g.most2
  have := ft.neg
  have := ft.low
  exact ⟨⟨by rw [g.keeps.len]; exact ft.small, by omega, by omega, hn.1, keeps_runs g.keeps ft.runs⟩, hn.2⟩
end Go.Proofs.YtnadldoebfmgmaaDoor.q
