/-
  SMALL WALKS of package query: looks, positive, reckon, there; the atomics.
-/
import Derived.Test.YtnadldoebfmgmaaDoorQH
import Derived.Deep.RegionHeld3
import Derived.BigRegion
import Derived.Laws.LoneSync
namespace Go.Proofs.YtnadldoebfmgmaaDoor.q
open Go.RowKit

theorem own_lit {w : World} {g base n : Nat} {e : TypeId} {cs : Array Value} (h : Blk w g e cs) (hs : cs.size = n) (hb : base ≤ g) (hn : n ≤ 1048576) : w.ownsRow base e 1 (.slice (some ⟨g, 0, none⟩) n n) n cs.toList :=
  ⟨by simp [hs], .inr ⟨g, n, cs, rfl, hb, h, Nat.le_refl _, by unfold maxLen; omega, by omega, by rw [List.take_of_length_le (by simp [hs])]⟩⟩

theorem blk_new1 (w : World) (o : Obj) (t : TypeId) (cs : Array Value) : Blk ((w.alloc o).alloc (.cells cs t)) (w.heap.size + 1) t cs := by
  have := Blk.new (w.alloc o) t cs
  simpa using this
set_option maxRecDepth 100000 in
theorem looks_walk (op a b c : Int) (w : World) (ho : 0 ≤ op ∧ op ≤ 5) :
    Calls Tryd.prog 26 #[.agg #[.int .i64 op, .int .i64 a, .int .i64 b, .int .i64 c]] w fun e w' => ∃ v, e = .returned v ∧ w'.ownsRow w.heap.size 3 1 v (looksL op a b c).length (intsV (looksL op a b c)) ∧ Below w.heap.size w w' := by
  have hc : op = 0 ∨ op = 1 ∨ op = 2 ∨ op = 3 ∨ op = 4 ∨ op = 5 := by omega
  rcases hc with rfl | rfl | rfl | rfl | rfl | rfl
  · go_enter Tryd.func26, Tryd.ntmps26
    go_wp2
    go_ret
    exact ⟨_, rfl, World.ownsRow_nil _ _ _ _, (Below.refl _ _).alloc (Nat.le_refl _) _⟩
  all_goals
    go_enter Tryd.func26, Tryd.ntmps26
    go_wp2
    go_ret
    refine ⟨_, rfl, ?_, ((Below.refl _ _).alloc (Nat.le_refl _) _).alloc (by simp) _⟩
    first
    | exact own_lit (cs := #[.int .i64 a, .int .i64 b]) (n := 2) (blk_new1 _ _ _ _) rfl (by omega) (by omega)
    | exact own_lit (cs := #[.int .i64 a, .int .i64 b, .int .i64 c]) (n := 3) (blk_new1 _ _ _ _) rfl (by omega) (by omega)
    | exact own_lit (cs := #[.int .i64 a]) (n := 1) (blk_new1 _ _ _ _) rfl (by omega) (by omega)

theorem tmod_bd (n m : Int) (hm : 0 < m) : -m < n.tmod m ∧ n.tmod m < m := by
  exact ⟨Int.lt_tmod_of_pos n hm, Int.tmod_lt_of_pos n hm⟩
set_option maxRecDepth 100000 in
theorem positive_walk (n m : Int) (w : World) (hm : 0 < m) (hm2 : m ≤ 1000003) (h1 : -9223372036854775808 ≤ n) (h2 : n ≤ 9223372036854775807) :
    Calls Tryd.prog 70 #[.int .i64 n, .int .i64 m] w fun e w' => e = .returned (.int .i64 (posM n m)) ∧ w = w' := by
  have hb := tmod_bd n m hm
  go_enter Tryd.func70, Tryd.ntmps70
  go_wp2
  go_ret
  exact ⟨rfl, rfl⟩
theorem positive_m (n : Int) (w : World) (h : I64 n) : Calls Tryd.prog 70 #[.int .i64 n, .int .i64 1000003] w fun e w' => e = .returned (.int .i64 (posM n 1000003)) ∧ w' = w :=
  (positive_walk n 1000003 w (by omega) (by omega) h.1 h.2).mono fun _ _ ⟨h1, h2⟩ => ⟨h1, h2.symm⟩
theorem mul_bd {p q : Int} (h1 : 0 ≤ p ∧ p < 1000003) (h2 : 0 ≤ q ∧ q < 1000003) : 0 ≤ p * q ∧ p * q ≤ 1000004000004 := by
  have h3 : 0 ≤ p * q := Int.mul_nonneg h1.1 h2.1
  have h4 : p * q ≤ 1000002 * 1000002 := Int.mul_le_mul (by omega) (by omega) h2.1 (by omega)
  omega

set_option maxHeartbeats 2000000 in
set_option maxRecDepth 100000 in
theorem reckon_walk (op n0 n1 : Int) (b o len cap : Nat) (w : World) (ho : 1 ≤ op ∧ op ≤ 5) (h0 : w.cell? ⟨b, o, none⟩ = some (.int .i64 n0)) (h1 : op ≠ 5 → w.cell? ⟨b, o + 1, none⟩ = some (.int .i64 n1)) (hl : op ≠ 5 → 2 ≤ len) (hl1 : 1 ≤ len) (hn0 : I64 n0) (hn1 : I64 n1) :
    Calls Tryd.prog 63 #[.int .i64 op, .slice (some ⟨b, o, none⟩) len cap] w fun e w' => e = .returned (.int .i64 (reckonM op n0 n1)) ∧ ∃ n, w' = w.drewN n := by
  have hc : op = 1 ∨ op = 2 ∨ op = 3 ∨ op = 4 ∨ op = 5 := by omega
  have p0 := posM_bd n0 1000003 (by omega)
  have p1 := posM_bd n1 1000003 (by omega)
  have q0 : (0 : Int) < (len : Int) := by omega
  rcases hc with rfl | rfl | rfl | rfl | rfl
  · have c1 := h1 (by decide)
    have q1 : (1 : Int) < (len : Int) := by have := hl (by decide); omega
    have hI2 : I64 (posM n0 1000003 + posM n1 1000003) := ⟨by omega, by omega⟩
    have hw : IntKind.i64.wrap (posM n0 1000003 + posM n1 1000003) = posM n0 1000003 + posM n1 1000003 := IntWalk.i64_in _ (by omega)
    clear h1 hl
    go_enter Tryd.func63, Tryd.ntmps63
    go_wp2_with fail
    go_quiet ((go_at_call 70; exact Calls.quiet_of_same (positive_m _ _ (by assumption))))
    go_wp2_with fail
    go_ret
    exact ⟨rfl, _, rfl⟩
  · have c1 := h1 (by decide)
    have q1 : (1 : Int) < (len : Int) := by have := hl (by decide); omega
    have hm := mul_bd p0 p1
    have hI2 : I64 (posM n0 1000003 * posM n1 1000003) := ⟨by omega, by omega⟩
    have hw : IntKind.i64.wrap (posM n0 1000003 * posM n1 1000003) = posM n0 1000003 * posM n1 1000003 := IntWalk.i64_in _ (by omega)
    clear h1 hl
    go_enter Tryd.func63, Tryd.ntmps63
    go_wp2_with fail
    go_quiet ((go_at_call 70; exact Calls.quiet_of_same (positive_m _ _ (by assumption))))
    go_wp2_with fail
    go_ret
    exact ⟨rfl, _, rfl⟩
  · have c1 := h1 (by decide)
    have q1 : (1 : Int) < (len : Int) := by have := hl (by decide); omega
    clear h1 hl
    by_cases hlt : n0 < n1
    · have e : reckonM 3 n0 n1 = 1 := by simp [reckonM, hlt]
      rw [e]
      go_enter Tryd.func63, Tryd.ntmps63
      go_wp2_with fail
      go_quiet (fail)
      go_wp2_with fail
      go_ret
      exact ⟨rfl, _, rfl⟩
    · have e : reckonM 3 n0 n1 = 0 := by simp [reckonM, hlt]
      rw [e]
      go_enter Tryd.func63, Tryd.ntmps63
      go_wp2_with fail
      go_quiet (fail)
      go_wp2_with fail
      go_ret
      exact ⟨rfl, _, rfl⟩
  · have c1 := h1 (by decide)
    have q1 : (1 : Int) < (len : Int) := by have := hl (by decide); omega
    clear h1 hl
    go_enter Tryd.func63, Tryd.ntmps63
    go_wp2_with fail
    go_ret
    exact ⟨rfl, 0, rfl⟩
  · clear h1 hl
    go_enter Tryd.func63, Tryd.ntmps63
    go_wp2_with fail
    refine (positive_walk n0 4 _ (by omega) (by omega) hn0.1 hn0.2).mono ?_
    rintro e w' ⟨rfl, rfl⟩
    go_wp2_with fail
    go_ret
    exact ⟨rfl, 0, rfl⟩
end Go.Proofs.YtnadldoebfmgmaaDoor.q
