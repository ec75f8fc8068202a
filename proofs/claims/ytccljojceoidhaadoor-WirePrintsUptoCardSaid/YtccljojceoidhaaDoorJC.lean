/-
  JOINED of the texts PX PY PZ
-/
import Derived.Test.YtccljojceoidhaaDoorJB
import Derived.Test.YtccljojceoidhaaDoorJA
/-
  WALKS of package amanuensisref11: Print, of values without parts; what is wrong.
-/
namespace Go.Proofs.YtccljojceoidhaaDoor
open Go.RowKit

/-- what the document's Print answers -/
def rpV (X : Nat × Bs) : Value := .tuple #[.string ⟨(if X.1 = 0 then X.2 else []).toArray⟩, .int .i64 X.1]

section
variable (kind num : Int) (t : Bs) (nk nd : Nat) (Ak Ad : Option Addr) (ck cd dp p : Nat) (w : World)

set_option maxHeartbeats 4000000 in
set_option maxRecDepth 100000 in
theorem rpr_bad0 (hB : Blk w p 71 #[.int .i64 0, .int .i64 num, .string ⟨t.toArray⟩, .slice Ak nk ck, .slice Ad nd cd]) (_hk : nk ≤ 4194304) (_hd : nd ≤ 4194304) (hR : rightB 0 num t nk nd = false) :
    Calls Tryd.prog 13 #[.pointer (some ⟨p, 0, none⟩), .int .i64 dp] w fun e w' => e = .returned (rpV (3, [])) ∧ Below w.heap.size w w' := by
  have HR := Lib.hid hR
  clear hR
  by_cases h0 : num = 0
  rotate_left
  · have e0 : ((num : Int) != 0) = true := by simp; omega
    clear h0 HR
    have c0 := hB.cell 0
    have c1 := hB.cell 1
    have c2 := hB.cell 2
    have c3 := hB.cell 3
    have c4 := hB.cell 4
    simp at c0 c1 c2 c3 c4
    go_enter Tryd.func13, Tryd.ntmps13
    go_wp2_with fail
    go_quiet (fail)
    go_wp2_with fail
    go_ret2
    exact ⟨rfl, below_drewN (Below.refl _ _) _⟩
  subst h0
  by_cases h1 : t = []
  rotate_left
  · have e1 : ((t : Bs) == []) = false := by simp; exact h1
    have f1 : ¬ (t = ([] : Bs)) := h1
    clear h1 HR
    have c0 := hB.cell 0
    have c1 := hB.cell 1
    have c2 := hB.cell 2
    have c3 := hB.cell 3
    have c4 := hB.cell 4
    simp at c0 c1 c2 c3 c4
    go_enter Tryd.func13, Tryd.ntmps13
    go_wp2_with fail
    go_quiet (fail)
    go_wp2_with fail
    go_ret2
    exact ⟨rfl, below_drewN (Below.refl _ _) _⟩
  subst h1
  by_cases h2 : nk = 0 ∧ nd = 0
  rotate_left
  · have e2 : (0 : Int) < (nk : Int) + (nd : Int) := by omega
    clear h2 HR
    have c0 := hB.cell 0
    have c1 := hB.cell 1
    have c2 := hB.cell 2
    have c3 := hB.cell 3
    have c4 := hB.cell 4
    simp at c0 c1 c2 c3 c4
    go_enter Tryd.func13, Tryd.ntmps13
    go_wp2_with fail
    go_quiet (fail)
    go_wp2_with fail
    go_ret2
    exact ⟨rfl, below_drewN (Below.refl _ _) _⟩
  obtain ⟨rfl, rfl⟩ := h2
  exfalso
  have h := HR.out
  unfold rightB at h
  simp at h

set_option maxHeartbeats 4000000 in
set_option maxRecDepth 100000 in
theorem rpr_bad1 (hB : Blk w p 71 #[.int .i64 1, .int .i64 num, .string ⟨t.toArray⟩, .slice Ak nk ck, .slice Ad nd cd]) (_hk : nk ≤ 4194304) (_hd : nd ≤ 4194304) (hR : rightB 1 num t nk nd = false) :
    Calls Tryd.prog 13 #[.pointer (some ⟨p, 0, none⟩), .int .i64 dp] w fun e w' => e = .returned (rpV (3, [])) ∧ Below w.heap.size w w' := by
  have HR := Lib.hid hR
  clear hR
  by_cases h0 : ¬ num < 0
  rotate_left
  · have e0 : num < 0 := by omega
    clear h0 HR
    have c0 := hB.cell 0
    have c1 := hB.cell 1
    have c2 := hB.cell 2
    have c3 := hB.cell 3
    have c4 := hB.cell 4
    simp at c0 c1 c2 c3 c4
    go_enter Tryd.func13, Tryd.ntmps13
    go_wp2_with fail
    go_quiet (fail)
    go_wp2_with fail
    go_ret2
    exact ⟨rfl, below_drewN (Below.refl _ _) _⟩
  by_cases h1 : ¬ 1 < num
  rotate_left
  · have e1 : 1 < num := by omega
    clear h1 HR
    have c0 := hB.cell 0
    have c1 := hB.cell 1
    have c2 := hB.cell 2
    have c3 := hB.cell 3
    have c4 := hB.cell 4
    simp at c0 c1 c2 c3 c4
    go_enter Tryd.func13, Tryd.ntmps13
    go_wp2_with fail
    go_quiet (fail)
    go_wp2_with fail
    go_ret2
    exact ⟨rfl, below_drewN (Below.refl _ _) _⟩
  by_cases h2 : t = []
  rotate_left
  · have e2 : ((t : Bs) == []) = false := by simp; exact h2
    have f2 : ¬ (t = ([] : Bs)) := h2
    clear h2 HR
    have c0 := hB.cell 0
    have c1 := hB.cell 1
    have c2 := hB.cell 2
    have c3 := hB.cell 3
    have c4 := hB.cell 4
    simp at c0 c1 c2 c3 c4
    go_enter Tryd.func13, Tryd.ntmps13
    go_wp2_with fail
    go_quiet (fail)
    go_wp2_with fail
    go_ret2
    exact ⟨rfl, below_drewN (Below.refl _ _) _⟩
  subst h2
  by_cases h3 : nk = 0 ∧ nd = 0
  rotate_left
  · have e3 : (0 : Int) < (nk : Int) + (nd : Int) := by omega
    clear h3 HR
    have c0 := hB.cell 0
    have c1 := hB.cell 1
    have c2 := hB.cell 2
    have c3 := hB.cell 3
    have c4 := hB.cell 4
    simp at c0 c1 c2 c3 c4
    go_enter Tryd.func13, Tryd.ntmps13
    go_wp2_with fail
    go_quiet (fail)
    go_wp2_with fail
    go_ret2
    exact ⟨rfl, below_drewN (Below.refl _ _) _⟩
  obtain ⟨rfl, rfl⟩ := h3
  exfalso
  have h := HR.out
  unfold rightB at h
  simp at h
  omega

set_option maxHeartbeats 4000000 in
set_option maxRecDepth 100000 in
theorem rpr_bad2 (hB : Blk w p 71 #[.int .i64 2, .int .i64 num, .string ⟨t.toArray⟩, .slice Ak nk ck, .slice Ad nd cd]) (_hk : nk ≤ 4194304) (_hd : nd ≤ 4194304) (hR : rightB 2 num t nk nd = false) :
    Calls Tryd.prog 13 #[.pointer (some ⟨p, 0, none⟩), .int .i64 dp] w fun e w' => e = .returned (rpV (3, [])) ∧ Below w.heap.size w w' := by
  have HR := Lib.hid hR
  clear hR
  by_cases h0 : ¬ 999999999999999999 < num
  rotate_left
  · have e0 : 999999999999999999 < num := by omega
    clear h0 HR
    have c0 := hB.cell 0
    have c1 := hB.cell 1
    have c2 := hB.cell 2
    have c3 := hB.cell 3
    have c4 := hB.cell 4
    simp at c0 c1 c2 c3 c4
    go_enter Tryd.func13, Tryd.ntmps13
    go_wp2_with fail
    go_quiet (fail)
    go_wp2_with fail
    go_ret2
    exact ⟨rfl, below_drewN (Below.refl _ _) _⟩
  by_cases h1 : ¬ num < -999999999999999999
  rotate_left
  · have e1 : num < -999999999999999999 := by omega
    clear h1 HR
    have c0 := hB.cell 0
    have c1 := hB.cell 1
    have c2 := hB.cell 2
    have c3 := hB.cell 3
    have c4 := hB.cell 4
    simp at c0 c1 c2 c3 c4
    go_enter Tryd.func13, Tryd.ntmps13
    go_wp2_with fail
    go_quiet (fail)
    go_wp2_with fail
    go_ret2
    exact ⟨rfl, below_drewN (Below.refl _ _) _⟩
  by_cases h2 : t = []
  rotate_left
  · have e2 : ((t : Bs) == []) = false := by simp; exact h2
    have f2 : ¬ (t = ([] : Bs)) := h2
    clear h2 HR
    have c0 := hB.cell 0
    have c1 := hB.cell 1
    have c2 := hB.cell 2
    have c3 := hB.cell 3
    have c4 := hB.cell 4
    simp at c0 c1 c2 c3 c4
    go_enter Tryd.func13, Tryd.ntmps13
    go_wp2_with fail
    go_quiet (fail)
    go_wp2_with fail
    go_ret2
    exact ⟨rfl, below_drewN (Below.refl _ _) _⟩
  subst h2
  by_cases h3 : nk = 0 ∧ nd = 0
  rotate_left
  · have e3 : (0 : Int) < (nk : Int) + (nd : Int) := by omega
    clear h3 HR
    have c0 := hB.cell 0
    have c1 := hB.cell 1
    have c2 := hB.cell 2
    have c3 := hB.cell 3
    have c4 := hB.cell 4
    simp at c0 c1 c2 c3 c4
    go_enter Tryd.func13, Tryd.ntmps13
    go_wp2_with fail
    go_quiet (fail)
    go_wp2_with fail
    go_ret2
    exact ⟨rfl, below_drewN (Below.refl _ _) _⟩
  obtain ⟨rfl, rfl⟩ := h3
  exfalso
  have h := HR.out
  unfold rightB at h
  simp at h
  omega

set_option maxHeartbeats 4000000 in
set_option maxRecDepth 100000 in
theorem rpr_bad3 (hB : Blk w p 71 #[.int .i64 3, .int .i64 num, .string ⟨t.toArray⟩, .slice Ak nk ck, .slice Ad nd cd]) (_hk : nk ≤ 4194304) (_hd : nd ≤ 4194304) (hR : rightB 3 num t nk nd = false) :
    Calls Tryd.prog 13 #[.pointer (some ⟨p, 0, none⟩), .int .i64 dp] w fun e w' => e = .returned (rpV (3, [])) ∧ Below w.heap.size w w' := by
  have HR := Lib.hid hR
  clear hR
  by_cases h0 : num = 0
  rotate_left
  · have e0 : ((num : Int) != 0) = true := by simp; omega
    clear h0 HR
    have c0 := hB.cell 0
    have c1 := hB.cell 1
    have c2 := hB.cell 2
    have c3 := hB.cell 3
    have c4 := hB.cell 4
    simp at c0 c1 c2 c3 c4
    go_enter Tryd.func13, Tryd.ntmps13
    go_wp2_with fail
    go_quiet (fail)
    go_wp2_with fail
    go_ret2
    exact ⟨rfl, below_drewN (Below.refl _ _) _⟩
  subst h0
  by_cases h1 : nk = 0 ∧ nd = 0
  rotate_left
  · have e1 : (0 : Int) < (nk : Int) + (nd : Int) := by omega
    clear h1 HR
    have c0 := hB.cell 0
    have c1 := hB.cell 1
    have c2 := hB.cell 2
    have c3 := hB.cell 3
    have c4 := hB.cell 4
    simp at c0 c1 c2 c3 c4
    go_enter Tryd.func13, Tryd.ntmps13
    go_wp2_with fail
    go_quiet (fail)
    go_wp2_with fail
    go_ret2
    exact ⟨rfl, below_drewN (Below.refl _ _) _⟩
  obtain ⟨rfl, rfl⟩ := h1
  exfalso
  have h := HR.out
  unfold rightB at h
  simp at h

set_option maxHeartbeats 4000000 in
set_option maxRecDepth 100000 in
theorem rpr_bad4 (hB : Blk w p 71 #[.int .i64 4, .int .i64 num, .string ⟨t.toArray⟩, .slice Ak nk ck, .slice Ad nd cd]) (_hk : nk ≤ 4194304) (_hd : nd ≤ 4194304) (hR : rightB 4 num t nk nd = false) :
    Calls Tryd.prog 13 #[.pointer (some ⟨p, 0, none⟩), .int .i64 dp] w fun e w' => e = .returned (rpV (3, [])) ∧ Below w.heap.size w w' := by
  have HR := Lib.hid hR
  clear hR
  by_cases h0 : num = 0
  rotate_left
  · have e0 : ((num : Int) != 0) = true := by simp; omega
    clear h0 HR
    have c0 := hB.cell 0
    have c1 := hB.cell 1
    have c2 := hB.cell 2
    have c3 := hB.cell 3
    have c4 := hB.cell 4
    simp at c0 c1 c2 c3 c4
    go_enter Tryd.func13, Tryd.ntmps13
    go_wp2_with fail
    go_quiet (fail)
    go_wp2_with fail
    go_ret2
    exact ⟨rfl, below_drewN (Below.refl _ _) _⟩
  subst h0
  by_cases h1 : t = []
  rotate_left
  · have e1 : ((t : Bs) == []) = false := by simp; exact h1
    have f1 : ¬ (t = ([] : Bs)) := h1
    clear h1 HR
    have c0 := hB.cell 0
    have c1 := hB.cell 1
    have c2 := hB.cell 2
    have c3 := hB.cell 3
    have c4 := hB.cell 4
    simp at c0 c1 c2 c3 c4
    go_enter Tryd.func13, Tryd.ntmps13
    go_wp2_with fail
    go_quiet (fail)
    go_wp2_with fail
    go_ret2
    exact ⟨rfl, below_drewN (Below.refl _ _) _⟩
  subst h1
  by_cases h2 : nk = 0
  rotate_left
  · have e2 : (0 : Int) < (nk : Int) := by omega
    clear h2 HR
    have c0 := hB.cell 0
    have c1 := hB.cell 1
    have c2 := hB.cell 2
    have c3 := hB.cell 3
    have c4 := hB.cell 4
    simp at c0 c1 c2 c3 c4
    go_enter Tryd.func13, Tryd.ntmps13
    go_wp2_with fail
    go_quiet (fail)
    go_wp2_with fail
    go_ret2
    exact ⟨rfl, below_drewN (Below.refl _ _) _⟩
  subst h2
  exfalso
  have h := HR.out
  unfold rightB at h
  simp at h

set_option maxHeartbeats 4000000 in
set_option maxRecDepth 100000 in
theorem rpr_bad5 (hB : Blk w p 71 #[.int .i64 5, .int .i64 num, .string ⟨t.toArray⟩, .slice Ak nk ck, .slice Ad nd cd]) (_hk : nk ≤ 4194304) (_hd : nd ≤ 4194304) (hR : rightB 5 num t nk nd = false) :
    Calls Tryd.prog 13 #[.pointer (some ⟨p, 0, none⟩), .int .i64 dp] w fun e w' => e = .returned (rpV (3, [])) ∧ Below w.heap.size w w' := by
  have HR := Lib.hid hR
  clear hR
  by_cases h0 : num = 0
  rotate_left
  · have e0 : ((num : Int) != 0) = true := by simp; omega
    clear h0 HR
    have c0 := hB.cell 0
    have c1 := hB.cell 1
    have c2 := hB.cell 2
    have c3 := hB.cell 3
    have c4 := hB.cell 4
    simp at c0 c1 c2 c3 c4
    go_enter Tryd.func13, Tryd.ntmps13
    go_wp2_with fail
    go_quiet (fail)
    go_wp2_with fail
    go_quiet (fail)
    go_wp2_with fail
    go_ret2
    exact ⟨rfl, by first | exact below_drewN (Below.refl _ _) _ | exact below_drewN (below_drewN (Below.refl _ _) _) _⟩
  subst h0
  by_cases h1 : t = []
  rotate_left
  · have e1 : ((t : Bs) == []) = false := by simp; exact h1
    have f1 : ¬ (t = ([] : Bs)) := h1
    clear h1 HR
    have c0 := hB.cell 0
    have c1 := hB.cell 1
    have c2 := hB.cell 2
    have c3 := hB.cell 3
    have c4 := hB.cell 4
    simp at c0 c1 c2 c3 c4
    go_enter Tryd.func13, Tryd.ntmps13
    go_wp2_with fail
    go_quiet (fail)
    go_wp2_with fail
    go_quiet (fail)
    go_wp2_with fail
    go_ret2
    exact ⟨rfl, by first | exact below_drewN (Below.refl _ _) _ | exact below_drewN (below_drewN (Below.refl _ _) _) _⟩
  subst h1
  by_cases h2 : nk = nd
  rotate_left
  · have e2 : ((nk : Int) != (nd : Int)) = true := by simp; omega
    clear h2 HR
    have c0 := hB.cell 0
    have c1 := hB.cell 1
    have c2 := hB.cell 2
    have c3 := hB.cell 3
    have c4 := hB.cell 4
    simp at c0 c1 c2 c3 c4
    go_enter Tryd.func13, Tryd.ntmps13
    go_wp2_with fail
    go_quiet (fail)
    go_wp2_with fail
    go_quiet (fail)
    go_wp2_with fail
    go_ret2
    exact ⟨rfl, by first | exact below_drewN (Below.refl _ _) _ | exact below_drewN (below_drewN (Below.refl _ _) _) _⟩
  subst h2
  exfalso
  have h := HR.out
  unfold rightB at h
  simp at h

set_option maxHeartbeats 4000000 in
set_option maxRecDepth 100000 in
theorem rpr_lo (hB : Blk w p 71 #[.int .i64 kind, .int .i64 num, .string ⟨t.toArray⟩, .slice Ak nk ck, .slice Ad nd cd]) (_hk : nk ≤ 4194304) (_hd : nd ≤ 4194304) (h : kind < 0) :
    Calls Tryd.prog 13 #[.pointer (some ⟨p, 0, none⟩), .int .i64 dp] w fun e w' => e = .returned (rpV (3, [])) ∧ Below w.heap.size w w' := by
  have q0 : (kind == 0) = false := by simp; omega
  have q1 : (kind == 1) = false := by simp; omega
  have q2 : (kind == 2) = false := by simp; omega
  have q3 : (kind == 3) = false := by simp; omega
  have q4 : (kind == 4) = false := by simp; omega
  have q5 : (kind == 5) = false := by simp; omega
  have c0 := hB.cell 0
  have c1 := hB.cell 1
  have c2 := hB.cell 2
  have c3 := hB.cell 3
  have c4 := hB.cell 4
  simp at c0 c1 c2 c3 c4
  go_enter Tryd.func13, Tryd.ntmps13
  go_wp2_with fail
  go_quiet (fail)
  go_wp2_with fail
  go_ret2
  exact ⟨rfl, below_drewN (Below.refl _ _) _⟩

set_option maxHeartbeats 4000000 in
set_option maxRecDepth 100000 in
theorem rpr_hi (hB : Blk w p 71 #[.int .i64 kind, .int .i64 num, .string ⟨t.toArray⟩, .slice Ak nk ck, .slice Ad nd cd]) (_hk : nk ≤ 4194304) (_hd : nd ≤ 4194304) (h : 5 < kind) :
    Calls Tryd.prog 13 #[.pointer (some ⟨p, 0, none⟩), .int .i64 dp] w fun e w' => e = .returned (rpV (3, [])) ∧ Below w.heap.size w w' := by
  have q0 : (kind == 0) = false := by simp; omega
  have q1 : (kind == 1) = false := by simp; omega
  have q2 : (kind == 2) = false := by simp; omega
  have q3 : (kind == 3) = false := by simp; omega
  have q4 : (kind == 4) = false := by simp; omega
  have q5 : (kind == 5) = false := by simp; omega
  have g1 : ¬ kind < 0 := by omega
  have c0 := hB.cell 0
  have c1 := hB.cell 1
  have c2 := hB.cell 2
  have c3 := hB.cell 3
  have c4 := hB.cell 4
  simp at c0 c1 c2 c3 c4
  go_enter Tryd.func13, Tryd.ntmps13
  go_wp2_with fail
  go_quiet (fail)
  go_wp2_with fail
  go_ret2
  exact ⟨rfl, below_drewN (Below.refl _ _) _⟩

set_option maxHeartbeats 4000000 in
set_option maxRecDepth 100000 in
theorem rpr_null (hB : Blk w p 71 #[.int .i64 0, .int .i64 0, .string ⟨#[]⟩, .slice Ak 0 ck, .slice Ad 0 cd]) :
    Calls Tryd.prog 13 #[.pointer (some ⟨p, 0, none⟩), .int .i64 dp] w fun e w' => e = .returned (rpV (0, [110, 117, 108, 108])) ∧ Below w.heap.size w w' := by
  have c0 := hB.cell 0
  have c1 := hB.cell 1
  have c2 := hB.cell 2
  have c3 := hB.cell 3
  have c4 := hB.cell 4
  simp at c0 c1 c2 c3 c4
  go_enter Tryd.func13, Tryd.ntmps13
  go_wp2_with fail
  go_quiet (fail)
  go_wp2_with fail
  go_ret2
  exact ⟨rfl, below_drewN (Below.refl _ _) _⟩

set_option maxHeartbeats 4000000 in
set_option maxRecDepth 100000 in
theorem rpr_no (hB : Blk w p 71 #[.int .i64 1, .int .i64 0, .string ⟨#[]⟩, .slice Ak 0 ck, .slice Ad 0 cd]) :
    Calls Tryd.prog 13 #[.pointer (some ⟨p, 0, none⟩), .int .i64 dp] w fun e w' => e = .returned (rpV (0, [102, 97, 108, 115, 101])) ∧ Below w.heap.size w w' := by
  have c0 := hB.cell 0
  have c1 := hB.cell 1
  have c2 := hB.cell 2
  have c3 := hB.cell 3
  have c4 := hB.cell 4
  simp at c0 c1 c2 c3 c4
  go_enter Tryd.func13, Tryd.ntmps13
  go_wp2_with fail
  go_quiet (fail)
  go_wp2_with fail
  go_ret2
  exact ⟨rfl, below_drewN (Below.refl _ _) _⟩

set_option maxHeartbeats 4000000 in
set_option maxRecDepth 100000 in
theorem rpr_yes (hB : Blk w p 71 #[.int .i64 1, .int .i64 1, .string ⟨#[]⟩, .slice Ak 0 ck, .slice Ad 0 cd]) :
    Calls Tryd.prog 13 #[.pointer (some ⟨p, 0, none⟩), .int .i64 dp] w fun e w' => e = .returned (rpV (0, [116, 114, 117, 101])) ∧ Below w.heap.size w w' := by
  have c0 := hB.cell 0
  have c1 := hB.cell 1
  have c2 := hB.cell 2
  have c3 := hB.cell 3
  have c4 := hB.cell 4
  simp at c0 c1 c2 c3 c4
  go_enter Tryd.func13, Tryd.ntmps13
  go_wp2_with fail
  go_quiet (fail)
  go_wp2_with fail
  go_ret2
  exact ⟨rfl, below_drewN (Below.refl _ _) _⟩

set_option maxHeartbeats 4000000 in
set_option maxRecDepth 100000 in
theorem rpr_num (hB : Blk w p 71 #[.int .i64 2, .int .i64 num, .string ⟨#[]⟩, .slice Ak 0 ck, .slice Ad 0 cd]) (h1 : -999999999999999999 ≤ num) (h2 : num ≤ 999999999999999999) :
    Calls Tryd.prog 13 #[.pointer (some ⟨p, 0, none⟩), .int .i64 dp] w fun e w' => e = .returned (rpV (0, Lib.itoa num)) ∧ Below w.heap.size w w' := by
  have hdg := fun w => rdig_walk num w h1 h2
  have g1 : ¬ 999999999999999999 < num := by omega
  have g2 : ¬ num < -999999999999999999 := by omega
  generalize hX : Lib.itoa num = X at *
  clear hX h1 h2
  have c0 := hB.cell 0
  have c1 := hB.cell 1
  have c2 := hB.cell 2
  have c3 := hB.cell 3
  have c4 := hB.cell 4
  simp at c0 c1 c2 c3 c4
  go_enter Tryd.func13, Tryd.ntmps13
  go_wp2_with fail
  go_quiet (fail)
  go_wp2_with fail
  refine (hdg _).mono ?_
  clear hdg
  rintro e w2 ⟨rfl, rfl⟩
  go_wp2_with fail
  go_ret2
  exact ⟨rfl, below_drewN (Below.refl _ _) _⟩

set_option maxHeartbeats 4000000 in
set_option maxRecDepth 100000 in
theorem rpr_text (hB : Blk w p 71 #[.int .i64 3, .int .i64 0, .string ⟨t.toArray⟩, .slice Ak 0 ck, .slice Ad 0 cd]) (ht : t.length ≤ 16777216) :
    Calls Tryd.prog 13 #[.pointer (some ⟨p, 0, none⟩), .int .i64 dp] w fun e w' => e = .returned (rpV (0, jquM t)) ∧ Below w.heap.size w w' := by
  have hqu := fun w => rjquote_walk t w ht
  generalize hX : jquM t = X at *
  clear hX ht
  have c0 := hB.cell 0
  have c1 := hB.cell 1
  have c2 := hB.cell 2
  have c3 := hB.cell 3
  have c4 := hB.cell 4
  simp at c0 c1 c2 c3 c4
  go_enter Tryd.func13, Tryd.ntmps13
  go_wp2_with fail
  go_quiet (fail)
  go_wp2_with fail
  refine (hqu _).mono ?_
  clear hqu
  rintro e w2 ⟨rfl, hb2⟩
  go_wp2_with fail
  go_ret2
  exact ⟨rfl, (below_drewN (Below.refl _ _) _).trans (hb2.mono (Nat.le_refl _))⟩

set_option maxHeartbeats 4000000 in
set_option maxRecDepth 100000 in
theorem rpr_full4 (hB : Blk w p 71 #[.int .i64 4, .int .i64 0, .string ⟨#[]⟩, .slice Ak 0 ck, .slice Ad nd cd]) (hdp : dp = 40) :
    Calls Tryd.prog 13 #[.pointer (some ⟨p, 0, none⟩), .int .i64 dp] w fun e w' => e = .returned (rpV (12, [])) ∧ Below w.heap.size w w' := by
  subst hdp
  have c0 := hB.cell 0
  have c1 := hB.cell 1
  have c2 := hB.cell 2
  have c3 := hB.cell 3
  have c4 := hB.cell 4
  simp at c0 c1 c2 c3 c4
  go_enter Tryd.func13, Tryd.ntmps13
  go_wp2_with fail
  go_quiet (fail)
  go_wp2_with fail
  go_ret2
  exact ⟨rfl, below_drewN (Below.refl _ _) _⟩

set_option maxHeartbeats 4000000 in
set_option maxRecDepth 100000 in
theorem rpr_full5 (hB : Blk w p 71 #[.int .i64 5, .int .i64 0, .string ⟨#[]⟩, .slice Ak nd ck, .slice Ad nd cd]) (hdp : dp = 40) :
    Calls Tryd.prog 13 #[.pointer (some ⟨p, 0, none⟩), .int .i64 dp] w fun e w' => e = .returned (rpV (12, [])) ∧ Below w.heap.size w w' := by
  subst hdp
  have c0 := hB.cell 0
  have c1 := hB.cell 1
  have c2 := hB.cell 2
  have c3 := hB.cell 3
  have c4 := hB.cell 4
  simp at c0 c1 c2 c3 c4
  go_enter Tryd.func13, Tryd.ntmps13
  go_wp2_with fail
  go_quiet (fail)
  go_wp2_with fail
  go_quiet (fail)
  go_wp2_with fail
  go_ret2
  exact ⟨rfl, by first | exact below_drewN (Below.refl _ _) _ | exact below_drewN (below_drewN (Below.refl _ _) _) _⟩
end
end Go.Proofs.YtccljojceoidhaaDoor
/-
  WALKS of package amanuensisref11: Print, of lists and maps.
-/
namespace Go.Proofs.YtccljojceoidhaaDoor
open Go.RowKit

theorem itemsM_len (f : JT → Nat × Bs) (hf : ∀ j, (f j).2.length ≤ j.wt) (m : Bool) (keys : List Bs) : ∀ (l : List JT) (i : Nat), (m = true → i + l.length ≤ keys.length) → (itemsM f m keys i l).2.length ≤ JT.wts l + JT.keyW (keys.drop i)
  | [], i, _ => by simp [itemsM]
  | k :: l, i, hm => by
    have ih := itemsM_len f hf m keys l (i + 1) (fun h => by have := hm h; simp only [List.length_cons] at this; omega)
    have h1 := hf k
    have h2 := keyW_le keys i
    rw [itemsM]
    split
    · simp
    · split
      · simp
      · simp only [List.length_append, JT.wts]
        have hc : (if i = 0 then [] else [44] : Bs).length ≤ 1 := by split <;> simp
        cases m with
        | false => simp only [Bool.false_eq_true, if_false, List.length_nil]; omega
        | true =>
          have hi : i < keys.length := by have := hm rfl; simp only [List.length_cons] at this; omega
          have h3 := keyW_at keys hi
          have hg : keys.getD i [] = keys[i] := by rw [List.getD_eq_getElem?_getD, List.getElem?_eq_getElem hi]; rfl
          have h4 := jquM_len keys[i]
          rw [hg]
          simp only [if_true, List.length_append, List.length_cons, List.length_nil]
          omega
theorem printM_len : ∀ (r : Nat) (j : JT), (printM r j).2.length ≤ j.wt := by
  intro r
  induction r with
  | zero =>
    intro j
    have hw := JT.wt_eq j
    rw [printM_eq]
    split
    · simp
    split
    · simp; omega
    split
    · simp only; split <;> (simp; omega)
    split
    · rename_i hn _ _ h2
      have hr : jright j = true := by simpa using hn
      rcases right_kind hr with h | ⟨h, _⟩ | ⟨_, h3, h4⟩ | h | h | h <;> first | (rw [h2] at h; simp at h) | skip
      have := itoa_len40 h3 h4
      simp only; omega
    split
    · have := jquM_len j.text; simp only; omega
    · simp
  | succ r ih =>
    intro j
    have hw := JT.wt_eq j
    rw [printM_eq]
    split
    · simp
    split
    · simp; omega
    split
    · simp only; split <;> (simp; omega)
    split
    · rename_i hn _ _ h2
      have hr : jright j = true := by simpa using hn
      rcases right_kind hr with h | ⟨h, _⟩ | ⟨_, h3, h4⟩ | h | h | h <;> first | (rw [h2] at h; simp at h) | skip
      have := itoa_len40 h3 h4
      simp only; omega
    split
    · have := jquM_len j.text; simp only; omega
    · rename_i hn _ _ _ _
      have hr : jright j = true := by simpa using hn
      have hl := itemsM_len (printM r) ih (decide (j.kind = 5)) j.keys j.kids 0 (fun h => by
        have h5 : j.kind = 5 := by simpa using h
        unfold jright at hr
        rw [h5] at hr
        simp at hr
        omega)
      rw [List.drop_zero] at hl
      by_cases hz : (itemsM (printM r) (decide (j.kind = 5)) j.keys 0 j.kids).1 ≠ 0
      · simp only [if_pos hz]; simp
      · simp only [if_neg hz]
        rw [List.length_append, List.length_append]
        have h1 : (if decide (j.kind = 5) = true then [123] else [91] : Bs).length ≤ 1 := by split <;> simp
        have h2 : (if decide (j.kind = 5) = true then [125] else [93] : Bs).length ≤ 1 := by split <;> simp
        omega

section
variable (keys : List Bs) (kids : List JT) (Ak Ad : Option Addr) (ck cd dp p : Nat) (w : World)
/-- what is known of values of one level less -/
def RpIH (N : Nat → Prop) (d dp : Nat) (f : JT → Nat × Bs) : Prop := ∀ (j : JT) (q : Nat) (w : World), RjAt w N d j q → (∀ b, N b → b < w.heap.size) → j.wt ≤ 9000000 →
  Calls Tryd.prog 13 #[.pointer (some ⟨q, 0, none⟩), .int .i64 ((dp : Int) + 1)] w fun e w' => e = .returned (rpV (f j)) ∧ Below w.heap.size w w'

set_option maxHeartbeats 8000000 in
set_option maxRecDepth 100000 in
theorem rpr_many4 (f : JT → Nat × Bs) (N : Nat → Prop) (d : Nat) (hB : Blk w p 71 #[.int .i64 4, .int .i64 0, .string ⟨#[]⟩, .slice Ak 0 ck, .slice Ad kids.length cd])
    (hks : 0 < keys.length → ∃ b, Ak = some ⟨b, 0, none⟩ ∧ N b ∧ ∀ k (h : k < keys.length), w.cell? ⟨b, k, none⟩ = some (strV keys[k]))
    (hds : 0 < kids.length → ∃ b, Ad = some ⟨b, 0, none⟩ ∧ N b ∧ ∀ k (h : k < kids.length), ∃ q, w.cell? ⟨b, k, none⟩ = some (.pointer (some ⟨q, 0, none⟩)) ∧ RjAt w N d kids[k] q)
    (hN : ∀ b, N b → b < w.heap.size) (ih : RpIH N d dp f) (hlen : ∀ j, (f j).2.length ≤ j.wt) (hdp : dp ≤ 39) (hkl : keys.length = 0) (hw : 40 + JT.keyW keys + JT.wts kids ≤ 9000000) (hd : kids.length ≤ 4194304) :
    Calls Tryd.prog 13 #[.pointer (some ⟨p, 0, none⟩), .int .i64 dp] w fun e w' => e = .returned (rpV (if (itemsM f false keys 0 kids).1 ≠ 0 then ((itemsM f false keys 0 kids).1, []) else (0, [91] ++ (itemsM f false keys 0 kids).2 ++ [93]))) ∧ Below w.heap.size w w' := by
  generalize hXX : (if (itemsM f false keys 0 kids).1 ≠ 0 then ((itemsM f false keys 0 kids).1, []) else (0, [91] ++ (itemsM f false keys 0 kids).2 ++ [93]) : Nat × Bs) = X
  generalize hPP : itemsM f false keys 0 kids = P at hXX
  have HP := Lib.hid hPP
  have HX : Hid (X = if P.1 ≠ 0 then (P.1, []) else (0, [91] ++ P.2 ++ [93])) := hXX.symm
  have d40 : ((dp : Int) == 40) = false := by simp; omega
  have HKL := Lib.hid hkl
  have HDS := Lib.hid hds
  have HKS := Lib.hid hks
  have IH := Lib.hid ih
  have hpl := hB.lt
  clear hPP hXX hkl hds hks ih
  have c0 := hB.cell 0
  have c1 := hB.cell 1
  have c2 := hB.cell 2
  have c3 := hB.cell 3
  have c4 := hB.cell 4
  simp at c0 c1 c2 c3 c4
  go_enter Tryd.func13, Tryd.ntmps13
  go_wp2_with fail
  go_quiet (fail)
  have hb1 : Below w.heap.size w (w.drewN nq) := below_drewN (Below.refl _ _) _
  have hB1 := hB.drewN nq
  clear c0 c1 c2 c3 c4
  generalize w.drewN nq = w1 at *
  have c0 := hB1.cell 0
  have c1 := hB1.cell 1
  have c2 := hB1.cell 2
  have c3 := hB1.cell 3
  have c4 := hB1.cell 4
  simp at c0 c1 c2 c3 c4
  go_wp2_with fail
  have hb2 := hb1
  clear c0 c1 c2 c3 c4
  go_loopw [14, 15] (fun sv iv wr => ∃ (i : Nat) (sofar : Bs), sv = .string ⟨sofar.toArray⟩ ∧ iv = .int .i64 i ∧ i ≤ kids.length ∧ Below w.heap.size w wr ∧ sofar.length + JT.wts (kids.drop i) + JT.keyW (keys.drop i) + 30 ≤ 9000000 ∧ Hid (P.1 = (itemsM f false keys i (kids.drop i)).1 ∧ ((itemsM f false keys i (kids.drop i)).1 = 0 → [91] ++ P.2 = sofar ++ (itemsM f false keys i (kids.drop i)).2))) (fun _ iv _ => kids.length - (intOf iv).toNat)
  case atStart => exact ⟨0, [91], rfl, rfl, by omega, hb2, by rw [List.drop_zero, List.drop_zero]; simp only [List.length_cons, List.length_nil]; omega, ⟨by rw [List.drop_zero, HP.out], fun _ => by rw [List.drop_zero, HP.out]⟩⟩
  case round =>
    obtain ⟨i, sofar, rfl, rfl, hi, hb, hbud, H⟩ := hrel
    have hbs := hb.size
    have hBr := hB.below hb hpl
    have c0 := hBr.cell 0
    have c3 := hBr.cell 3
    have c4 := hBr.cell 4
    simp at c0 c3 c4
    by_cases hlt : i < kids.length
    · obtain ⟨bd, rfl, hnd, hcd⟩ := HDS.out (by omega)
      obtain ⟨q, cq, hq⟩ := hcd i hlt
      have hbd := hN bd hnd
      have cqr : wr.cell? ⟨bd, i, none⟩ = some (.pointer (some ⟨q, 0, none⟩)) := (hb.cell (p := ⟨bd, i, none⟩) hbd).trans cq
      have hwt := wts_at kids hlt
      have hkw := keyW_le keys i
      have j0 : (0 : Int) ≤ (i : Int) := by omega
      have j1 : (i : Int) < (kids.length : Int) := by omega
      have Hst : Hid (itemsM f false keys i (kids.drop i) = if false = true ∧ keys.getD i [] ∈ keys.take i then (5, []) else if (f kids[i]).1 ≠ 0 then ((f kids[i]).1, []) else ((itemsM f false keys (i + 1) (kids.drop (i + 1))).1, (if i = 0 then [] else [44]) ++ (if false then jquM (keys.getD i []) ++ [58] else []) ++ (f kids[i]).2 ++ (itemsM f false keys (i + 1) (kids.drop (i + 1))).2)) := by
        show _ = _
        rw [List.drop_eq_getElem_cons hlt, itemsM]
      have hcall := fun (w' : World) (hb' : Below w.heap.size w w') => IH.out kids[i] q w' (hq.keep (fun _ h => h) (fun b hb => hb'.block b (hN b hb))) (fun b hb => Nat.lt_of_lt_of_le (hN b hb) hb'.size) (by omega)
      have hfl := hlen kids[i]
      generalize kids[i] = kid at *
      have Hcall := Lib.hid hcall
      have hsl : sofar.length ≤ 9000000 := by omega
      clear hcall cq hcd hq
      by_cases hi0 : i = 0
      · subst hi0
        go_wp2_with fail
        refine (Hcall.out wr hb).mono ?_
        rintro e w5 ⟨rfl, hb5⟩
        have hb05 := hb.trans (hb5.mono hbs)
        by_cases hfe : (f kid).1 = 0
        · have hstep : Hid (itemsM f false keys 0 (kids.drop 0) = ((itemsM f false keys (0 + 1) (kids.drop (0 + 1))).1, [] ++ (f kid).2 ++ (itemsM f false keys (0 + 1) (kids.drop (0 + 1))).2)) := by
            show _ = _
            rw [Hst.out, if_neg (by simp), if_neg (by rw [hfe]; simp)]
            simp
          have hHn : Hid (P.1 = (itemsM f false keys (0 + 1) (kids.drop (0 + 1))).1 ∧ ((itemsM f false keys (0 + 1) (kids.drop (0 + 1))).1 = 0 → [91] ++ P.2 = (sofar ++ (f kid).2) ++ (itemsM f false keys (0 + 1) (kids.drop (0 + 1))).2)) := by
            have h2 := H.out
            rw [hstep.out] at h2
            refine ⟨h2.1, fun h => ?_⟩
            rw [h2.2 h]
            simp [List.append_assoc]
          have hV : rpV (f kid) = .tuple #[.string ⟨(f kid).2.toArray⟩, .int .i64 0] := by unfold rpV; rw [hfe]; rfl
          rw [hV]
          generalize (f kid).2 = ft at *
          have hap : Value.string ((⟨sofar.toArray⟩ : ByteArray) ++ ⟨ft.toArray⟩) = .string ⟨(sofar ++ ft).toArray⟩ := by rw [← ba_app]
          have Hap := Lib.hid hap
          clear H Hst HX hstep hfe hV hap
          go_wp2_with fail
          go_roundw
          case rel => exact ⟨0 + 1, sofar ++ ft, Hap.out, by go_num, by omega, hb05, by simp only [List.length_append, List.length_cons, List.length_nil]; omega, hHn.out⟩
          case measure => simp [intOf]; omega
        · have hXe : Hid (X = ((f kid).1, [])) := by
            show _ = _
            have h2 := H.out
            rw [Hst.out, if_neg (by simp), if_pos hfe] at h2
            rw [HX.out, if_pos (by rw [h2.1]; exact hfe), h2.1]
          have hfe2 : ((((f kid).1 : Nat) : Int) != 0) = true := by simp; exact hfe
          have hV : rpV (f kid) = .tuple #[.string ⟨([] : Bs).toArray⟩, .int .i64 (f kid).1] := by unfold rpV; rw [if_neg hfe]
          have hV2 : Hid (rpV ((f kid).1, ([] : Bs)) = .tuple #[.string ⟨([] : Bs).toArray⟩, .int .i64 (f kid).1]) := by show _ = _; unfold rpV; rw [ite_self]
          rw [hV]
          clear H Hst HX hfe hV
          go_wp2_with fail
          go_ret2
          rw [hXe.out, hV2.out]
          exact ⟨rfl, hb05⟩
      · have hip : (0 : Int) < (i : Int) := by omega
        go_wp2_with fail
        refine (Hcall.out wr hb).mono ?_
        rintro e w5 ⟨rfl, hb5⟩
        have hb05 := hb.trans (hb5.mono hbs)
        by_cases hfe : (f kid).1 = 0
        · have hstep : Hid (itemsM f false keys i (kids.drop i) = ((itemsM f false keys (i + 1) (kids.drop (i + 1))).1, [44] ++ (f kid).2 ++ (itemsM f false keys (i + 1) (kids.drop (i + 1))).2)) := by
            show _ = _
            rw [Hst.out, if_neg (by simp), if_neg (by rw [hfe]; simp)]
            simp [hi0]
          have hHn : Hid (P.1 = (itemsM f false keys (i + 1) (kids.drop (i + 1))).1 ∧ ((itemsM f false keys (i + 1) (kids.drop (i + 1))).1 = 0 → [91] ++ P.2 = ((sofar ++ [44]) ++ (f kid).2) ++ (itemsM f false keys (i + 1) (kids.drop (i + 1))).2)) := by
            have h2 := H.out
            rw [hstep.out] at h2
            refine ⟨h2.1, fun h => ?_⟩
            rw [h2.2 h]
            simp [List.append_assoc]
          have hV : rpV (f kid) = .tuple #[.string ⟨(f kid).2.toArray⟩, .int .i64 0] := by unfold rpV; rw [hfe]; rfl
          rw [hV]
          generalize (f kid).2 = ft at *
          have hap : Value.string ((⟨sofar.toArray⟩ : ByteArray) ++ ⟨#[44]⟩ ++ ⟨ft.toArray⟩) = .string ⟨((sofar ++ [44]) ++ ft).toArray⟩ := by rw [← ba_app, ← ba_app]
          have Hap := Lib.hid hap
          clear H Hst HX hstep hfe hV hap
          go_wp2_with fail
          go_roundw
          case rel => exact ⟨i + 1, (sofar ++ [44]) ++ ft, Hap.out, by go_num, by omega, hb05, by simp only [List.length_append, List.length_cons, List.length_nil]; omega, hHn.out⟩
          case measure => simp [intOf]; omega
        · have hXe : Hid (X = ((f kid).1, [])) := by
            show _ = _
            have h2 := H.out
            rw [Hst.out, if_neg (by simp), if_pos hfe] at h2
            rw [HX.out, if_pos (by rw [h2.1]; exact hfe), h2.1]
          have hfe2 : ((((f kid).1 : Nat) : Int) != 0) = true := by simp; exact hfe
          have hV : rpV (f kid) = .tuple #[.string ⟨([] : Bs).toArray⟩, .int .i64 (f kid).1] := by unfold rpV; rw [if_neg hfe]
          have hV2 : Hid (rpV ((f kid).1, ([] : Bs)) = .tuple #[.string ⟨([] : Bs).toArray⟩, .int .i64 (f kid).1]) := by show _ = _; unfold rpV; rw [ite_self]
          rw [hV]
          clear H Hst HX hfe hV
          go_wp2_with fail
          go_ret2
          rw [hXe.out, hV2.out]
          exact ⟨rfl, hb05⟩
    · obtain rfl : i = kids.length := by omega
      have hH : Hid (P.1 = 0 ∧ [91] ++ P.2 = sofar) := by
        have h2 := H.out
        rw [List.drop_length, itemsM] at h2
        exact ⟨h2.1, by have := h2.2 rfl; rw [List.append_nil] at this; exact this⟩
      have hXe : Hid (X = (0, [91] ++ P.2 ++ [93])) := by show _ = _; rw [HX.out, if_neg (by rw [hH.out.1]; simp)]
      have hsl : sofar.length ≤ 9000000 := by omega
      clear H HX
      go_wp2_with fail
      go_ret2
      rw [hXe.out]
      refine ⟨?_, hb⟩
      unfold rpV
      simp only [if_true]
      rw [hH.out.2, ← ba_app]
      rfl

set_option maxHeartbeats 8000000 in
set_option maxRecDepth 100000 in
theorem rpr_many5 (f : JT → Nat × Bs) (N : Nat → Prop) (d : Nat) (hB : Blk w p 71 #[.int .i64 5, .int .i64 0, .string ⟨#[]⟩, .slice Ak kids.length ck, .slice Ad kids.length cd])
    (hks : 0 < keys.length → ∃ b, Ak = some ⟨b, 0, none⟩ ∧ N b ∧ ∀ k (h : k < keys.length), w.cell? ⟨b, k, none⟩ = some (strV keys[k]))
    (hds : 0 < kids.length → ∃ b, Ad = some ⟨b, 0, none⟩ ∧ N b ∧ ∀ k (h : k < kids.length), ∃ q, w.cell? ⟨b, k, none⟩ = some (.pointer (some ⟨q, 0, none⟩)) ∧ RjAt w N d kids[k] q)
    (hN : ∀ b, N b → b < w.heap.size) (ih : RpIH N d dp f) (hlen : ∀ j, (f j).2.length ≤ j.wt) (hdp : dp ≤ 39) (hkl : keys.length = kids.length) (hw : 40 + JT.keyW keys + JT.wts kids ≤ 9000000) (hd : kids.length ≤ 4194304) :
    Calls Tryd.prog 13 #[.pointer (some ⟨p, 0, none⟩), .int .i64 dp] w fun e w' => e = .returned (rpV (if (itemsM f true keys 0 kids).1 ≠ 0 then ((itemsM f true keys 0 kids).1, []) else (0, [123] ++ (itemsM f true keys 0 kids).2 ++ [125]))) ∧ Below w.heap.size w w' := by
  generalize hXX : (if (itemsM f true keys 0 kids).1 ≠ 0 then ((itemsM f true keys 0 kids).1, []) else (0, [123] ++ (itemsM f true keys 0 kids).2 ++ [125]) : Nat × Bs) = X
  generalize hPP : itemsM f true keys 0 kids = P at hXX
  have HP := Lib.hid hPP
  have HX : Hid (X = if P.1 ≠ 0 then (P.1, []) else (0, [123] ++ P.2 ++ [125])) := hXX.symm
  have d40 : ((dp : Int) == 40) = false := by simp; omega
  have HKL := Lib.hid hkl
  have HDS := Lib.hid hds
  have HKS := Lib.hid hks
  have IH := Lib.hid ih
  have hpl := hB.lt
  clear hPP hXX hkl hds hks ih
  have c0 := hB.cell 0
  have c1 := hB.cell 1
  have c2 := hB.cell 2
  have c3 := hB.cell 3
  have c4 := hB.cell 4
  simp at c0 c1 c2 c3 c4
  go_enter Tryd.func13, Tryd.ntmps13
  go_wp2_with fail
  go_quiet (fail)
  have hb1 : Below w.heap.size w (w.drewN nq) := below_drewN (Below.refl _ _) _
  have hB1 := hB.drewN nq
  clear c0 c1 c2 c3 c4
  generalize w.drewN nq = w1 at *
  have c0 := hB1.cell 0
  have c1 := hB1.cell 1
  have c2 := hB1.cell 2
  have c3 := hB1.cell 3
  have c4 := hB1.cell 4
  simp at c0 c1 c2 c3 c4
  go_wp2_with fail
  go_quiet (fail)
  have hb2 : Below w.heap.size w (w1.drewN nq) := below_drewN hb1 _
  generalize w1.drewN nq = w2 at *
  go_wp2_with fail
  clear c0 c1 c2 c3 c4
  go_loopw [14, 15] (fun sv iv wr => ∃ (i : Nat) (sofar : Bs), sv = .string ⟨sofar.toArray⟩ ∧ iv = .int .i64 i ∧ i ≤ kids.length ∧ Below w.heap.size w wr ∧ sofar.length + JT.wts (kids.drop i) + JT.keyW (keys.drop i) + 30 ≤ 9000000 ∧ Hid (P.1 = (itemsM f true keys i (kids.drop i)).1 ∧ ((itemsM f true keys i (kids.drop i)).1 = 0 → [123] ++ P.2 = sofar ++ (itemsM f true keys i (kids.drop i)).2))) (fun _ iv _ => kids.length - (intOf iv).toNat)
  case atStart => exact ⟨0, [123], rfl, rfl, by omega, hb2, by rw [List.drop_zero, List.drop_zero]; simp only [List.length_cons, List.length_nil]; omega, ⟨by rw [List.drop_zero, HP.out], fun _ => by rw [List.drop_zero, HP.out]⟩⟩
  case round =>
    obtain ⟨i, sofar, rfl, rfl, hi, hb, hbud, H⟩ := hrel
    have hbs := hb.size
    have hBr := hB.below hb hpl
    have c0 := hBr.cell 0
    have c3 := hBr.cell 3
    have c4 := hBr.cell 4
    simp at c0 c3 c4
    by_cases hlt : i < kids.length
    · obtain ⟨bd, rfl, hnd, hcd⟩ := HDS.out (by omega)
      obtain ⟨q, cq, hq⟩ := hcd i hlt
      have hbd := hN bd hnd
      have cqr : wr.cell? ⟨bd, i, none⟩ = some (.pointer (some ⟨q, 0, none⟩)) := (hb.cell (p := ⟨bd, i, none⟩) hbd).trans cq
      have hwt := wts_at kids hlt
      have hkw := keyW_le keys i
      have j0 : (0 : Int) ≤ (i : Int) := by omega
      have j1 : (i : Int) < (kids.length : Int) := by omega
      have Hst : Hid (itemsM f true keys i (kids.drop i) = if true = true ∧ keys.getD i [] ∈ keys.take i then (5, []) else if (f kids[i]).1 ≠ 0 then ((f kids[i]).1, []) else ((itemsM f true keys (i + 1) (kids.drop (i + 1))).1, (if i = 0 then [] else [44]) ++ (if true then jquM (keys.getD i []) ++ [58] else []) ++ (f kids[i]).2 ++ (itemsM f true keys (i + 1) (kids.drop (i + 1))).2)) := by
        show _ = _
        rw [List.drop_eq_getElem_cons hlt, itemsM]
      have hcall := fun (w' : World) (hb' : Below w.heap.size w w') => IH.out kids[i] q w' (hq.keep (fun _ h => h) (fun b hb => hb'.block b (hN b hb))) (fun b hb => Nat.lt_of_lt_of_le (hN b hb) hb'.size) (by omega)
      have hfl := hlen kids[i]
      generalize kids[i] = kid at *
      have Hcall := Lib.hid hcall
      have hsl : sofar.length ≤ 9000000 := by omega
      clear hcall hcd hq
      have hi5 : i < keys.length := by have := HKL.out; omega
      obtain ⟨bk, rfl, hnk, hck5⟩ := HKS.out (by omega)
      have hbk := hN bk hnk
      have cki : w.cell? ⟨bk, i, none⟩ = some (.string ⟨keys[i].toArray⟩) := hck5 i hi5
      have HCK : Hid (∀ h, h < keys.length → w.cell? ⟨bk, h, none⟩ = some (strV (keys.getD h []))) := fun h hh => by
        rw [List.getD_eq_getElem?_getD, List.getElem?_eq_getElem hh]; exact hck5 h hh
      have hkw5 := keyW_at keys hi5
      have hgd : Hid (keys.getD i [] = keys[i]) := by show _ = _; rw [List.getD_eq_getElem?_getD, List.getElem?_eq_getElem hi5]; rfl
      have hyl := jquM_len keys[i]
      have hqu := fun w => rjquote_walk keys[i] w (by omega)
      clear hck5
      generalize keys[i] = key at *
      generalize hYY : jquM key = Y at *
      have HY := Lib.hid hYY
      clear hYY
      by_cases hi0 : i = 0
      · subst hi0
        go_wp2_with fail
        go_loopw [16] (fun hv wr => ∃ h : Nat, hv = .int .i64 h ∧ h ≤ 0 ∧ Below w.heap.size w wr ∧ Hid (key ∉ keys.take h)) (fun hv _ => 0 - (intOf hv).toNat)
        case atStart => exact ⟨0, rfl, by omega, hb, by show _ ∉ _; simp⟩
        case round =>
          obtain ⟨h, rfl, hh, hb3, Hn⟩ := hrel
          have hB3 := hB.below hb3 hpl
          clear c0 c3 c4
          have c0 := hB3.cell 0
          have c3 := hB3.cell 3
          have c4 := hB3.cell 4
          simp at c0 c3 c4
          have hbs3 := hb3.size
          have ci : wr.cell? ⟨bk, 0, none⟩ = some (.string ⟨key.toArray⟩) := (hb3.cell (p := ⟨bk, 0, none⟩) hbk).trans cki
          have j2 : (0 : Int) ≤ (h : Int) := by omega
          by_cases hlt2 : h < 0
          · exact absurd hlt2 (by omega)
          · have hnot : Hid (key ∉ keys.take 0) := fun h2 => Hn.out (by rw [show h = 0 by omega]; exact h2)
            have j5 : ¬ (h : Int) < (0 : Nat) := by omega
            clear Hn hlt2
            go_wp2_with fail
            refine (hqu wr).mono ?_
            rintro e w4 ⟨rfl, hb4⟩
            have hb04 := hb3.trans (hb4.mono hbs3)
            have hB4 := hB.below hb04 hpl
            clear c0 c3 c4 ci
            have c0 := hB4.cell 0
            have c3 := hB4.cell 3
            have c4 := hB4.cell 4
            simp at c0 c3 c4
            have cq4 : w4.cell? ⟨bd, 0, none⟩ = some (.pointer (some ⟨q, 0, none⟩)) := (hb04.cell (p := ⟨bd, 0, none⟩) hbd).trans cq
            have hbs4 := hb04.size
            go_wp2_with fail
            refine (Hcall.out w4 hb04).mono ?_
            rintro e w5 ⟨rfl, hb5⟩
            have hb05 := hb04.trans (hb5.mono hbs4)
            by_cases hfe : (f kid).1 = 0
            · have hstep : Hid (itemsM f true keys 0 (kids.drop 0) = ((itemsM f true keys (0 + 1) (kids.drop (0 + 1))).1, [] ++ (Y ++ [58]) ++ (f kid).2 ++ (itemsM f true keys (0 + 1) (kids.drop (0 + 1))).2)) := by
                show _ = _
                rw [Hst.out, if_neg (by rintro ⟨_, h2⟩; rw [hgd.out] at h2; exact hnot.out h2), if_neg (by rw [hfe]; simp), hgd.out, HY.out]
                simp
              have hHn : Hid (P.1 = (itemsM f true keys (0 + 1) (kids.drop (0 + 1))).1 ∧ ((itemsM f true keys (0 + 1) (kids.drop (0 + 1))).1 = 0 → [123] ++ P.2 = (sofar ++ Y ++ [58] ++ (f kid).2) ++ (itemsM f true keys (0 + 1) (kids.drop (0 + 1))).2)) := by
                have h2 := H.out
                rw [hstep.out] at h2
                refine ⟨h2.1, fun h => ?_⟩
                rw [h2.2 h]
                simp [List.append_assoc]
              have hV : rpV (f kid) = .tuple #[.string ⟨(f kid).2.toArray⟩, .int .i64 0] := by unfold rpV; rw [hfe]; rfl
              rw [hV]
              generalize (f kid).2 = ft at *
              have hap : Value.string ((⟨sofar.toArray⟩ : ByteArray) ++ ⟨Y.toArray⟩ ++ ⟨#[58]⟩ ++ ⟨ft.toArray⟩) = .string ⟨(sofar ++ Y ++ [58] ++ ft).toArray⟩ := by rw [← ba_app, ← ba_app, ← ba_app]
              have Hap := Lib.hid hap
              clear H Hst HX hstep hfe hV hap
              go_wp2_with fail
              go_roundw
              case rel => exact ⟨0 + 1, sofar ++ Y ++ [58] ++ ft, Hap.out, by go_num, by omega, hb05, by simp only [List.length_append, List.length_cons, List.length_nil]; omega, hHn.out⟩
              case measure => simp [intOf]; omega
            · have hXe : Hid (X = ((f kid).1, [])) := by
                show _ = _
                have h2 := H.out
                rw [Hst.out, if_neg (by rintro ⟨_, h2⟩; rw [hgd.out] at h2; exact hnot.out h2), if_pos hfe] at h2
                rw [HX.out, if_pos (by rw [h2.1]; exact hfe), h2.1]
              have hfe2 : ((((f kid).1 : Nat) : Int) != 0) = true := by simp; exact hfe
              have hV : rpV (f kid) = .tuple #[.string ⟨([] : Bs).toArray⟩, .int .i64 (f kid).1] := by unfold rpV; rw [if_neg hfe]
              have hV2 : Hid (rpV ((f kid).1, ([] : Bs)) = .tuple #[.string ⟨([] : Bs).toArray⟩, .int .i64 (f kid).1]) := by show _ = _; unfold rpV; rw [ite_self]
              rw [hV]
              clear H Hst HX hfe hV
              go_wp2_with fail
              go_ret2
              rw [hXe.out, hV2.out]
              exact ⟨rfl, hb05⟩
      · have hip : (0 : Int) < (i : Int) := by omega
        go_wp2_with fail
        go_loopw [16] (fun hv wr => ∃ h : Nat, hv = .int .i64 h ∧ h ≤ i ∧ Below w.heap.size w wr ∧ Hid (key ∉ keys.take h)) (fun hv _ => i - (intOf hv).toNat)
        case atStart => exact ⟨0, rfl, by omega, hb, by show _ ∉ _; simp⟩
        case round =>
          obtain ⟨h, rfl, hh, hb3, Hn⟩ := hrel
          have hB3 := hB.below hb3 hpl
          clear c0 c3 c4
          have c0 := hB3.cell 0
          have c3 := hB3.cell 3
          have c4 := hB3.cell 4
          simp at c0 c3 c4
          have hbs3 := hb3.size
          have ci : wr.cell? ⟨bk, i, none⟩ = some (.string ⟨key.toArray⟩) := (hb3.cell (p := ⟨bk, i, none⟩) hbk).trans cki
          have j2 : (0 : Int) ≤ (h : Int) := by omega
          by_cases hlt2 : h < i
          · have ch := HCK.out h (by omega)
            have ch := (hb3.cell (p := ⟨bk, h, none⟩) hbk).trans ch
            have hhk : h < keys.length := by omega
            have HCK2 : Hid (keys.getD h [] = keys[h]) := by show _ = _; rw [List.getD_eq_getElem?_getD, List.getElem?_eq_getElem hhk]; rfl
            have Hst2 : Hid (keys[h] ≠ key → key ∉ keys.take (h + 1)) := fun hne => by
              rw [List.take_succ_eq_append_getElem hhk, List.mem_append, List.mem_singleton]
              rintro (h2 | h2)
              · exact Hn.out h2
              · exact hne h2.symm
            have Hin : Hid (keys[h] = key → keys.getD i [] ∈ keys.take i) := fun he => by
              rw [hgd.out, ← he]
              exact List.mem_take_iff_getElem.2 ⟨h, by omega, rfl⟩
            rw [HCK2.out] at ch
            unfold strV at ch
            generalize keys[h] = x at *
            have j3 : (h : Int) < (i : Nat) := by omega
            have j4 : (h : Int) < (kids.length : Int) := by omega
            by_cases hxk : x = key
            · have hXe : Hid (X = (5, [])) := by
                show _ = _
                have h2 := H.out
                rw [Hst.out, if_pos ⟨by first | rfl | trivial, Hin.out hxk⟩] at h2
                rw [HX.out, if_pos (by rw [h2.1]; simp), h2.1]
              subst hxk
              clear H HX Hst Hst2 Hin HCK2
              go_wp2_with fail
              go_quiet (fail)
              go_wp2_with fail
              go_ret2
              rw [hXe.out]
              exact ⟨rfl, below_drewN hb3 _⟩
            · have d1 : (x == key) = false := by simp [hxk]
              have Hn2 := Lib.hid (Hst2.out hxk)
              clear hxk Hst2 Hin HCK2
              go_wp2_with fail
              go_quiet (fail)
              go_wp2_with fail
              go_roundw
              case rel => exact ⟨h + 1, by go_num, by omega, below_drewN hb3 _, Hn2.out⟩
              case measure => simp [intOf]; omega
          · have hnot : Hid (key ∉ keys.take i) := fun h2 => Hn.out (by rw [show h = i by omega]; exact h2)
            have j5 : ¬ (h : Int) < (i : Nat) := by omega
            clear Hn hlt2
            go_wp2_with fail
            refine (hqu wr).mono ?_
            rintro e w4 ⟨rfl, hb4⟩
            have hb04 := hb3.trans (hb4.mono hbs3)
            have hB4 := hB.below hb04 hpl
            clear c0 c3 c4 ci
            have c0 := hB4.cell 0
            have c3 := hB4.cell 3
            have c4 := hB4.cell 4
            simp at c0 c3 c4
            have cq4 : w4.cell? ⟨bd, i, none⟩ = some (.pointer (some ⟨q, 0, none⟩)) := (hb04.cell (p := ⟨bd, i, none⟩) hbd).trans cq
            have hbs4 := hb04.size
            go_wp2_with fail
            refine (Hcall.out w4 hb04).mono ?_
            rintro e w5 ⟨rfl, hb5⟩
            have hb05 := hb04.trans (hb5.mono hbs4)
            by_cases hfe : (f kid).1 = 0
            · have hstep : Hid (itemsM f true keys i (kids.drop i) = ((itemsM f true keys (i + 1) (kids.drop (i + 1))).1, [44] ++ (Y ++ [58]) ++ (f kid).2 ++ (itemsM f true keys (i + 1) (kids.drop (i + 1))).2)) := by
                show _ = _
                rw [Hst.out, if_neg (by rintro ⟨_, h2⟩; rw [hgd.out] at h2; exact hnot.out h2), if_neg (by rw [hfe]; simp), hgd.out, HY.out]
                simp [hi0]
              have hHn : Hid (P.1 = (itemsM f true keys (i + 1) (kids.drop (i + 1))).1 ∧ ((itemsM f true keys (i + 1) (kids.drop (i + 1))).1 = 0 → [123] ++ P.2 = ((sofar ++ [44]) ++ Y ++ [58] ++ (f kid).2) ++ (itemsM f true keys (i + 1) (kids.drop (i + 1))).2)) := by
                have h2 := H.out
                rw [hstep.out] at h2
                refine ⟨h2.1, fun h => ?_⟩
                rw [h2.2 h]
                simp [List.append_assoc]
              have hV : rpV (f kid) = .tuple #[.string ⟨(f kid).2.toArray⟩, .int .i64 0] := by unfold rpV; rw [hfe]; rfl
              rw [hV]
              generalize (f kid).2 = ft at *
              have hap : Value.string (((⟨sofar.toArray⟩ : ByteArray) ++ ⟨#[44]⟩) ++ ⟨Y.toArray⟩ ++ ⟨#[58]⟩ ++ ⟨ft.toArray⟩) = .string ⟨((sofar ++ [44]) ++ Y ++ [58] ++ ft).toArray⟩ := by rw [← ba_app, ← ba_app, ← ba_app, ← ba_app]
              have Hap := Lib.hid hap
              clear H Hst HX hstep hfe hV hap
              go_wp2_with fail
              go_roundw
              case rel => exact ⟨i + 1, (sofar ++ [44]) ++ Y ++ [58] ++ ft, Hap.out, by go_num, by omega, hb05, by simp only [List.length_append, List.length_cons, List.length_nil]; omega, hHn.out⟩
              case measure => simp [intOf]; omega
            · have hXe : Hid (X = ((f kid).1, [])) := by
                show _ = _
                have h2 := H.out
                rw [Hst.out, if_neg (by rintro ⟨_, h2⟩; rw [hgd.out] at h2; exact hnot.out h2), if_pos hfe] at h2
                rw [HX.out, if_pos (by rw [h2.1]; exact hfe), h2.1]
              have hfe2 : ((((f kid).1 : Nat) : Int) != 0) = true := by simp; exact hfe
              have hV : rpV (f kid) = .tuple #[.string ⟨([] : Bs).toArray⟩, .int .i64 (f kid).1] := by unfold rpV; rw [if_neg hfe]
              have hV2 : Hid (rpV ((f kid).1, ([] : Bs)) = .tuple #[.string ⟨([] : Bs).toArray⟩, .int .i64 (f kid).1]) := by show _ = _; unfold rpV; rw [ite_self]
              rw [hV]
              clear H Hst HX hfe hV
              go_wp2_with fail
              go_ret2
              rw [hXe.out, hV2.out]
              exact ⟨rfl, hb05⟩
    · obtain rfl : i = kids.length := by omega
      have hH : Hid (P.1 = 0 ∧ [123] ++ P.2 = sofar) := by
        have h2 := H.out
        rw [List.drop_length, itemsM] at h2
        exact ⟨h2.1, by have := h2.2 rfl; rw [List.append_nil] at this; exact this⟩
      have hXe : Hid (X = (0, [123] ++ P.2 ++ [125])) := by show _ = _; rw [HX.out, if_neg (by rw [hH.out.1]; simp)]
      have hsl : sofar.length ≤ 9000000 := by omega
      clear H HX
      go_wp2_with fail
      go_ret2
      rw [hXe.out]
      refine ⟨?_, hb⟩
      unfold rpV
      simp only [if_true]
      rw [hH.out.2, ← ba_app]
      rfl
end
end Go.Proofs.YtccljojceoidhaaDoor
/-
  WALKS of package amanuensisref11: Print of any value.
-/
namespace Go.Proofs.YtccljojceoidhaaDoor
open Go.RowKit

/-- what is known of values at a level -/
def RpAt (r dp : Nat) : Prop := ∀ (N : Nat → Prop) (d : Nat) (j : JT) (q : Nat) (w : World), RjAt w N d j q → (∀ b, N b → b < w.heap.size) → j.wt ≤ 9000000 →
  Calls Tryd.prog 13 #[.pointer (some ⟨q, 0, none⟩), .int .i64 (dp : Nat)] w fun e w' => e = .returned (rpV (printM r j)) ∧ Below w.heap.size w w'

/-- lists and maps are what is left -/
theorem rprint_step (r dp : Nat)
    (hmany : ∀ (N : Nat → Prop) (d : Nat) (k : Int) (keys : List Bs) (kids : List JT) (q : Nat) (Ak Ad : Option Addr) (ck cd : Nat) (w : World), ((k = 4 ∧ keys = []) ∨ (k = 5 ∧ keys.length = kids.length)) → jright (JT.mk k 0 [] keys kids) = true →
      Blk w q 71 #[.int .i64 k, .int .i64 0, .string ⟨#[]⟩, .slice Ak keys.length ck, .slice Ad kids.length cd] →
      (0 < keys.length → ∃ b, Ak = some ⟨b, 0, none⟩ ∧ N b ∧ ∀ k (h : k < keys.length), w.cell? ⟨b, k, none⟩ = some (strV keys[k])) →
      (0 < kids.length → ∃ b, Ad = some ⟨b, 0, none⟩ ∧ N b ∧ ∀ k (h : k < kids.length), ∃ q, w.cell? ⟨b, k, none⟩ = some (.pointer (some ⟨q, 0, none⟩)) ∧ RjAt w N d kids[k] q) →
      (∀ b, N b → b < w.heap.size) → 40 + JT.keyW keys + JT.wts kids ≤ 9000000 → kids.length ≤ 4194304 →
      Calls Tryd.prog 13 #[.pointer (some ⟨q, 0, none⟩), .int .i64 (dp : Nat)] w fun e w' => e = .returned (rpV (printM r (JT.mk k 0 [] keys kids))) ∧ Below w.heap.size w w') : RpAt r dp := by
  intro N d j q w hj hN hw
  cases d with
  | zero => exact absurd hj id
  | succ d =>
  obtain ⟨_, Ak, ck, Ad, cd, hB, hk, hd⟩ := hj
  have hwt := JT.wt_eq j
  have hkg := keyW_ge j.keys
  have hdg := wts_ge j.kids
  obtain ⟨k, num, t, keys, kids⟩ := j
  simp only [JT.kind, JT.num, JT.text, JT.keys, JT.kids] at *
  cases hr : jright (JT.mk k num t keys kids) with
  | false =>
    have e : printM r (JT.mk k num t keys kids) = (3, []) := by rw [printM_eq, if_pos hr]
    rw [e]
    by_cases hlo : k < 0
    · exact rpr_lo _ _ _ _ _ _ _ _ _ _ _ _ hB (by omega) (by omega) hlo
    by_cases hhi : 5 < k
    · exact rpr_hi _ _ _ _ _ _ _ _ _ _ _ _ hB (by omega) (by omega) hhi
    have hc : k = 0 ∨ k = 1 ∨ k = 2 ∨ k = 3 ∨ k = 4 ∨ k = 5 := by omega
    rcases hc with rfl | rfl | rfl | rfl | rfl | rfl
    · exact rpr_bad0 _ _ _ _ _ _ _ _ _ _ _ hB (by omega) (by omega) hr
    · exact rpr_bad1 _ _ _ _ _ _ _ _ _ _ _ hB (by omega) (by omega) hr
    · exact rpr_bad2 _ _ _ _ _ _ _ _ _ _ _ hB (by omega) (by omega) hr
    · exact rpr_bad3 _ _ _ _ _ _ _ _ _ _ _ hB (by omega) (by omega) hr
    · exact rpr_bad4 _ _ _ _ _ _ _ _ _ _ _ hB (by omega) (by omega) hr
    · exact rpr_bad5 _ _ _ _ _ _ _ _ _ _ _ hB (by omega) (by omega) hr
  | true =>
    have hnf : ¬ jright (JT.mk k num t keys kids) = false := by rw [hr]; simp
    rcases right_kind hr with hk0 | ⟨hk0, hk2⟩ | ⟨hk0, hk2, hk3⟩ | hk0 | hk0 | hk0
    · have hk0 : k = 0 := hk0
      subst hk0
      have e : printM r (JT.mk 0 num t keys kids) = (0, [110, 117, 108, 108]) := by rw [printM_eq, if_neg hnf]; rfl
      have hs : num = 0 ∧ t = [] ∧ keys = [] ∧ kids = [] := by
        unfold jright at hr
        simp only [JT.kind, JT.num, JT.text, JT.keys, JT.kids, Int.reduceEq, eq_self, if_true, if_false, Bool.and_eq_true, decide_eq_true_eq, List.length_eq_zero_iff, and_assoc] at hr
        exact ⟨of_decide_eq_true hr.1, of_decide_eq_true hr.2.1, hr.2.2⟩
      obtain ⟨rfl, rfl, rfl, rfl⟩ := hs
      rw [e]
      exact rpr_null _ _ _ _ _ _ _ hB
    · have hk0 : k = 1 := hk0
      subst hk0
      have hk2 : num = 0 ∨ num = 1 := hk2
      have hs : t = [] ∧ keys = [] ∧ kids = [] := by
        unfold jright at hr
        simp only [JT.kind, JT.num, JT.text, JT.keys, JT.kids, Int.reduceEq, eq_self, if_true, if_false, Bool.and_eq_true, decide_eq_true_eq, List.length_eq_zero_iff, and_assoc] at hr
        exact by first | exact ⟨of_decide_eq_true hr.2.1, hr.2.2⟩ | exact ⟨of_decide_eq_true hr.2.2.1, hr.2.2.2⟩
      obtain ⟨rfl, rfl, rfl⟩ := hs
      rcases hk2 with hk2 | hk2
      · subst hk2
        have e : printM r (JT.mk 1 0 [] [] []) = (0, [102, 97, 108, 115, 101]) := by rw [printM_eq, if_neg hnf]; rfl
        rw [e]
        exact rpr_no _ _ _ _ _ _ _ hB
      · subst hk2
        have e : printM r (JT.mk 1 1 [] [] []) = (0, [116, 114, 117, 101]) := by rw [printM_eq, if_neg hnf]; rfl
        rw [e]
        exact rpr_yes _ _ _ _ _ _ _ hB
    · have hk0 : k = 2 := hk0
      subst hk0
      have e : printM r (JT.mk 2 num t keys kids) = (0, Lib.itoa num) := by rw [printM_eq, if_neg hnf]; rfl
      rw [e]
      have hs : t = [] ∧ keys = [] ∧ kids = [] := by
        unfold jright at hr
        simp only [JT.kind, JT.num, JT.text, JT.keys, JT.kids, Int.reduceEq, eq_self, if_true, if_false, Bool.and_eq_true, decide_eq_true_eq, List.length_eq_zero_iff, and_assoc] at hr
        exact by first | exact ⟨of_decide_eq_true hr.2.1, hr.2.2⟩ | exact ⟨of_decide_eq_true hr.2.2.1, hr.2.2.2⟩
      obtain ⟨rfl, rfl, rfl⟩ := hs
      exact rpr_num _ _ _ _ _ _ _ _ hB hk2 hk3
    · have hk0 : k = 3 := hk0
      subst hk0
      have e : printM r (JT.mk 3 num t keys kids) = (0, jquM t) := by rw [printM_eq, if_neg hnf]; rfl
      rw [e]
      have hs : num = 0 ∧ keys = [] ∧ kids = [] := by
        unfold jright at hr
        simp only [JT.kind, JT.num, JT.text, JT.keys, JT.kids, Int.reduceEq, eq_self, if_true, if_false, Bool.and_eq_true, decide_eq_true_eq, List.length_eq_zero_iff, and_assoc] at hr
        exact ⟨of_decide_eq_true hr.1, hr.2⟩
      obtain ⟨rfl, rfl, rfl⟩ := hs
      exact rpr_text _ _ _ _ _ _ _ _ hB (by omega)
    · have hk0 : k = 4 := hk0
      subst hk0
      have hs : num = 0 ∧ t = [] ∧ keys = [] := by
        have hr := hr
        unfold jright at hr
        simp only [JT.kind, JT.num, JT.text, JT.keys, JT.kids, Int.reduceEq, eq_self, if_true, if_false, Bool.and_eq_true, decide_eq_true_eq, List.length_eq_zero_iff, and_assoc] at hr
        exact ⟨of_decide_eq_true hr.1, of_decide_eq_true hr.2.1, hr.2.2⟩
      obtain ⟨rfl, rfl, rfl⟩ := hs
      exact hmany N d 4 [] kids q Ak Ad ck cd w (.inl ⟨rfl, rfl⟩) hr hB hk hd hN (by omega) (by omega)
    · have hk0 : k = 5 := hk0
      subst hk0
      have hs : num = 0 ∧ t = [] ∧ keys.length = kids.length := by
        have hr := hr
        unfold jright at hr
        simp only [JT.kind, JT.num, JT.text, JT.keys, JT.kids, Int.reduceEq, eq_self, if_true, if_false, Bool.and_eq_true, decide_eq_true_eq, List.length_eq_zero_iff, and_assoc] at hr
        exact ⟨of_decide_eq_true hr.1, of_decide_eq_true hr.2.1, by first | exact hr.2.2 | exact of_decide_eq_true hr.2.2⟩
      obtain ⟨rfl, rfl, hs⟩ := hs
      exact hmany N d 5 keys kids q Ak Ad ck cd w (.inr ⟨rfl, hs⟩) hr hB hk hd hN (by omega) (by omega)

theorem rprint_any : ∀ (r dp : Nat), dp + r = 40 → RpAt r dp := by
  intro r
  induction r with
  | zero =>
    intro dp hdp
    refine rprint_step 0 dp fun N d k keys kids q Ak Ad ck cd w hk hr hB hks hds hN h1 h2 => ?_
    rcases hk with ⟨rfl, rfl⟩ | ⟨rfl, hs⟩
    · have e : printM 0 (JT.mk 4 0 [] [] kids) = (12, []) := by rw [printM_eq, if_neg (by rw [hr]; simp)]; rfl
      rw [e]
      exact rpr_full4 _ _ _ _ _ _ _ _ hB (by omega)
    · have e : printM 0 (JT.mk 5 0 [] keys kids) = (12, []) := by rw [printM_eq, if_neg (by rw [hr]; simp)]; rfl
      rw [e]
      rw [hs] at hB
      exact rpr_full5 _ _ _ _ _ _ _ _ hB (by omega)
  | succ r ih =>
    intro dp hdp
    refine rprint_step (r + 1) dp fun N d k keys kids q Ak Ad ck cd w hk hr hB hks hds hN h1 h2 => ?_
    have ihh : RpIH N d dp (printM r) := fun j q w h1 h2 h3 => by
      have := ih (dp + 1) (by omega) N d j q w h1 h2 h3
      rwa [show ((dp + 1 : Nat) : Int) = (dp : Int) + 1 by omega] at this
    rcases hk with ⟨rfl, rfl⟩ | ⟨rfl, hs⟩
    · have e : printM (r + 1) (JT.mk 4 0 [] [] kids) = (if (itemsM (printM r) false [] 0 kids).1 ≠ 0 then ((itemsM (printM r) false [] 0 kids).1, []) else (0, [91] ++ (itemsM (printM r) false [] 0 kids).2 ++ [93])) := by
        rw [printM_eq, if_neg (by rw [hr]; simp)]; rfl
      rw [e]
      exact rpr_many4 [] kids Ak Ad ck cd dp q w (printM r) N d hB hks hds hN ihh (printM_len r) (by omega) rfl h1 h2
    · have e : printM (r + 1) (JT.mk 5 0 [] keys kids) = (if (itemsM (printM r) true keys 0 kids).1 ≠ 0 then ((itemsM (printM r) true keys 0 kids).1, []) else (0, [123] ++ (itemsM (printM r) true keys 0 kids).2 ++ [125])) := by
        rw [printM_eq, if_neg (by rw [hr]; simp)]; rfl
      rw [e]
      rw [hs] at hB
      exact rpr_many5 keys kids Ak Ad ck cd dp q w (printM r) N d hB hks hds hN ihh (printM_len r) (by omega) hs h1 h2
end Go.Proofs.YtccljojceoidhaaDoor
