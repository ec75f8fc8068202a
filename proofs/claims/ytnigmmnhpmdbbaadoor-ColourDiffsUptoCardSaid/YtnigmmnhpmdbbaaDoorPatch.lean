/-
  THE WALK of colour.Patch.
-/
import Derived.Test.YtnigmmnhpmdbbaaDoorConcat
import Derived.Test.YtnigmmnhpmdbbaaDoorSpan
namespace Go.Proofs.YtnigmmnhpmdbbaaDoor
open Go.RowKit

set_option maxRecDepth 100000 in
theorem patch_bad (A1 : Option Addr) (c1 n1 : Nat) (at_ dr : Int) (v2 : Value) (w : World) (hl1 : n1 ≤ 1048576) (hbad : ¬ (0 ≤ at_ ∧ 0 ≤ dr ∧ at_ ≤ n1 ∧ dr ≤ n1 - at_)) :
    Calls Tryd.prog 5 #[.slice A1 n1 c1, .int .i64 at_, .int .i64 dr, v2] w fun e w' => e = .returned (.tuple #[.slice none 0 0, errV 1]) ∧ w = w' := by
  have hways : at_ < 0 ∨ (0 ≤ at_ ∧ dr < 0) ∨ (0 ≤ at_ ∧ 0 ≤ dr ∧ (n1 : Int) < at_) ∨ (0 ≤ at_ ∧ 0 ≤ dr ∧ at_ ≤ n1 ∧ (n1 : Int) - at_ < dr) := by omega
  clear hbad
  rcases hways with h1 | ⟨h1, h2⟩ | ⟨h1, h2, h3⟩ | ⟨h1, h2, h3, h4⟩
  · have d1 : decide (at_ < 0) = true := by simp [h1]
    go_enter Tryd.func5, Tryd.ntmps5
    go_wp2_with fail
    go_ret2
    exact ⟨rfl, rfl⟩
  · have d1 : decide (at_ < 0) = false := by simp; omega
    have d2 : decide (dr < 0) = true := by simp [h2]
    go_enter Tryd.func5, Tryd.ntmps5
    go_wp2_with fail
    go_ret2
    exact ⟨rfl, rfl⟩
  · have d1 : decide (at_ < 0) = false := by simp; omega
    have d2 : decide (dr < 0) = false := by simp; omega
    have d3 : decide ((n1 : Int) < at_) = true := by simp [h3]
    go_enter Tryd.func5, Tryd.ntmps5
    go_wp2_with fail
    go_ret2
    exact ⟨rfl, rfl⟩
  · have d1 : decide (at_ < 0) = false := by simp; omega
    have d2 : decide (dr < 0) = false := by simp; omega
    have d3 : decide ((n1 : Int) < at_) = false := by simp; omega
    have d4 : decide ((n1 : Int) - at_ < dr) = true := by simp [h4]
    go_enter Tryd.func5, Tryd.ntmps5
    go_wp2_with fail
    go_ret2
    exact ⟨rfl, rfl⟩

def patchL (a b : List Co) (at_ dr : Nat) : List Co := a.take at_ ++ (b ++ a.drop (at_ + dr))

theorem CoAt.take {w : World} {A : Option Addr} {l : List Co} (h : CoAt w A l) (k : Nat) : CoAt w A (l.take k) :=
  ⟨fun hA => by rw [h.1 hA]; simp, fun ad hA j u hu => h.2 ad hA j u (by
    rw [← coCells_take, List.getElem?_take] at hu
    split at hu
    · exact hu
    · cases hu)⟩
theorem CoAt.drop {w : World} {A : Option Addr} {l : List Co} (h : CoAt w A l) (k : Nat) : CoAt w (A.map (fun x => x.add (k * 4))) (l.drop k) :=
  ⟨fun hA => by
    have := h.1 (by cases A <;> simp_all)
    rw [this]; simp, fun ad hA j u hu => by
    cases A with
    | none => cases hA
    | some a2 =>
      injection hA with hA
      subst hA
      rw [← coCells_drop, List.getElem?_drop] at hu
      have := h.2 a2 rfl _ _ hu
      rwa [Go.Deep.add_add]⟩
theorem CoAt.nil (w : World) (A : Option Addr) : CoAt w A [] := ⟨fun _ => rfl, fun ad _ j u hu => by simp [coCells] at hu⟩

/-- the last steps of Patch: the three pieces are put behind one another -/
theorem pieces_walk (A1 : Option Addr) (c1 : Nat) (A2 : Option Addr) (c2 : Nat) (A3 : Option Addr) (c3 n1 n2 n3 cp : Nat) (x y z : List Co) (w : World) (B : Nat) (hB : w.heap[B]? = some (.cells #[.slice A1 n1 c1, .slice A2 n2 c2, .slice A3 n3 c3] 22 (0, 0)))
    (e1 : x.length = n1) (e2 : y.length = n2) (e3 : z.length = n3) (h1 : CoAt w A1 x) (h2 : CoAt w A2 y) (h3 : CoAt w A3 z) (k1 : A1 = none → c1 = 0) (k2 : A2 = none → c2 = 0) (k3 : A3 = none → c3 = 0) (hl : x.length + (y.length + z.length) ≤ 4194304) :
    Calls Tryd.prog 9 #[.slice (some ⟨B, 0, none⟩) 3 cp] w fun e w' => ∃ v, e = .returned v ∧ w'.ownsRow w.heap.size 26 4 v (x ++ (y ++ z)).length (coCells (x ++ (y ++ z))) ∧ Below w.heap.size w w' := by
  subst e1 e2 e3
  have hBlk : Blk w B 22 #[.slice A1 x.length c1, .slice A2 y.length c2, .slice A3 z.length c3] := hB
  have e : allCo [⟨A1, c1, x⟩, ⟨A2, c2, y⟩, ⟨A3, c3, z⟩] = x ++ (y ++ z) := by simp [allCo]
  have := concat_walk B cp [⟨A1, c1, x⟩, ⟨A2, c2, y⟩, ⟨A3, c3, z⟩] w hBlk.lt (fun i hi => by
      rw [hBlk.cell]
      match i, hi with
      | 0, _ => rfl
      | 1, _ => rfl
      | 2, _ => rfl) (fun s hs => by
      simp only [List.mem_cons, List.mem_nil_iff, or_false] at hs
      rcases hs with rfl | rfl | rfl
      · exact ⟨h1, k1⟩
      · exact ⟨h2, k2⟩
      · exact ⟨h3, k3⟩) (by rw [e, List.length_append, List.length_append]; exact hl) (by simp)
  rw [e] at this
  exact this

set_option maxHeartbeats 1000000 in
set_option maxRecDepth 100000 in
theorem patch_ok (A1 : Option Addr) (c1 : Nat) (a : List Co) (at_ dr : Nat) (A2 : Option Addr) (c2 : Nat) (b : List Co) (w : World) (hr1 : Rd w w.heap.size 4 A1 a.length (coCells a)) (hr2 : Rd w w.heap.size 4 A2 b.length (coCells b))
    (hl1 : a.length ≤ 1048576) (hl2 : b.length ≤ 1048576) (hcap : a.length ≤ c1) (hnil : A1 = none → c1 = 0) (hnil2 : A2 = none → c2 = 0) (hd : at_ + dr ≤ a.length) :
    Calls Tryd.prog 5 #[.slice A1 a.length c1, .int .i64 at_, .int .i64 dr, .slice A2 b.length c2] w fun e w' => ∃ Av, e = .returned (.tuple #[.slice Av (patchL a b at_ dr).length (patchL a b at_ dr).length, .nilIface]) ∧ Rd w' w'.heap.size 4 Av (patchL a b at_ dr).length (coCells (patchL a b at_ dr)) ∧ Below w.heap.size w w' := by
  have hpl : (patchL a b at_ dr).length ≤ 4194304 := by unfold patchL; simp; omega
  generalize hP : patchL a b at_ dr = P at hpl ⊢
  have HP := Lib.hid hP
  clear hP
  have d1 : decide ((at_ : Int) < 0) = false := by simp
  have d2 : decide ((dr : Int) < 0) = false := by simp
  have d3 : decide (a.length < at_) = false := by simp; omega
  have d4 : decide ((a.length : Int) - at_ < dr) = false := by simp; omega
  have x1 : at_ ≤ c1 := by omega
  have x2 : at_ + dr ≤ a.length := hd
  have x3 : a.length ≤ c1 := hcap
  have x4 : at_ + dr ≤ c1 := by omega
  have w1 : IntKind.i64.wrap ((at_ : Int) + dr) = at_ + dr := by rw [IntWalk.i64_in _ (by omega)]
  have w2 : ((at_ : Int) + dr).toNat = at_ + dr := by omega
  have w3 : (0 : Int) ≤ (at_ : Int) + dr := by omega
  have x5 : (at_ : Int) + dr ≤ (a.length : Int) := by omega
  have hca := hr1.coAt
  have hcb := hr2.coAt
  obtain ⟨A3, c3, hA3, h3, k3⟩ : ∃ A3 c3, (if c1 = at_ + dr then A1 else Option.map (fun x => x.add ((at_ + dr) * 4)) A1) = A3 ∧ CoAt w A3 (a.drop (at_ + dr)) ∧ (A3 = none → c1 - (at_ + dr) = 0) ∧ c3 = c1 - (at_ + dr) := by
    by_cases h : c1 = at_ + dr
    · have hz : a.drop (at_ + dr) = [] := List.drop_of_length_le (by omega)
      exact ⟨A1, _, by rw [if_pos h], by rw [hz]; exact CoAt.nil _ _, fun _ => by omega, rfl⟩
    · refine ⟨_, _, rfl, ?_, fun hA => ?_, rfl⟩
      · rw [if_neg h]; exact hca.drop _
      · rw [if_neg h] at hA
        have := hnil (by cases A1 <;> simp_all)
        omega
  obtain ⟨k3, rfl⟩ := k3
  go_enter Tryd.func5, Tryd.ntmps5
  go_wp2_with fail
  go_still_tail 9, (by kernel_rfl)
  change wpList _ _ _ _ _ w.drew
  go_wp2_with fail
  have hb0 : Below w.heap.size w (w.alloc (.cells #[.slice A1 at_ c1, .slice A2 b.length c2, .slice A3 (a.length - (at_ + dr)) (c1 - (at_ + dr))] 22)).drew := ((Below.refl _ _).alloc (Nat.le_refl _) _).drew
  have hBk : (w.alloc (.cells #[.slice A1 at_ c1, .slice A2 b.length c2, .slice A3 (a.length - (at_ + dr)) (c1 - (at_ + dr))] 22)).drew.heap[w.heap.size]? = some (.cells #[.slice A1 at_ c1, .slice A2 b.length c2, .slice A3 (a.length - (at_ + dr)) (c1 - (at_ + dr))] 22 (0, 0)) := heap_alloc_new w _
  generalize (w.alloc (.cells #[.slice A1 at_ c1, .slice A2 b.length c2, .slice A3 (a.length - (at_ + dr)) (c1 - (at_ + dr))] 22)).drew = wd at *
  have hpw := pieces_walk A1 c1 A2 c2 A3 (c1 - (at_ + dr)) at_ b.length (a.length - (at_ + dr)) 3 (a.take at_) b (a.drop (at_ + dr)) wd w.heap.size hBk (by simp; omega) rfl (by simp) ((hca.take at_).below hb0) (hcb.below hb0) (h3.below hb0) hnil hnil2 k3 (by simp; omega)
  rw [show a.take at_ ++ (b ++ a.drop (at_ + dr)) = P from HP.out] at hpw
  have hz0 := hb0.size
  refine hpw.mono ?_
  clear hpw
  rintro e w3 ⟨v, rfl, hown, hb3⟩
  have hmc : ∃ Av cv, v = .slice Av P.length cv ∧ P.length ≤ cv ∧ (Av = none → cv = 0) := by
    rcases hown.2 with ⟨rfl, hP0⟩ | ⟨g, cap, cur, rfl, _, _, hle, _⟩
    · exact ⟨none, 0, by rw [hP0], by omega, fun _ => rfl⟩
    · exact ⟨_, cap, rfl, hle, fun h => by cases h⟩
  obtain ⟨Av, cv, rfl, hle, hvn⟩ := hmc
  have hRd := Rd.of_own hown
  have hb03 := hb0.trans (hb3.mono hz0)
  clear hown hb0 hb3 hz0 hca hcb h3
  go_wp2_with fail
  refine (clip_walk Av P.length cv _ hle hvn).mono ?_
  rintro e w' ⟨rfl, rfl⟩
  go_wp2_with fail
  go_ret2
  exact ⟨Av, rfl, hRd, hb03⟩
end Go.Proofs.YtnigmmnhpmdbbaaDoor
