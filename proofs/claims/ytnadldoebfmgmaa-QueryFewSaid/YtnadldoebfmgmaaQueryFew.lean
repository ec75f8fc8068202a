/-
  PROVED: the law QueryFew (what does not hang on a change is not run again): for any rules, any numbers, any cell and any number it returns true, and its arguments read as before.
  Conditions: the given row's own (calm); no other.
-/
import Derived.Test.YtnadldoebfmgmaaQLeave
import Derived.Test.YtnadldoebfmgmaaQX
import Derived.OpenShut
namespace Go.Proofs.Ytnadldoebfmgmaa.queryFew
open Go.ChangeShapes Go.WideShapes Go.ChangeAt Go.RowKit

theorem own : ownKnob Try.prog.godebug = none := by kernel_rfl
theorem laidOut : laidOutB Try.prog = true := by kernel_rfl

set_option maxRecDepth 100000 in
theorem contract (H : Type) (enc : TypeId × Value → H) (W : World) (base : Nat) (args : Array Value) (ds gs : List (DataW H)) (before : List MemPlace)
    (hval : ∀ (j : Nat) t v, Try.f3.params[j]? = some t → args[j]? = some v → Value.okWide Try.prog W .any base t v)
    (hW : DataW.Whole enc Try.prog Try.f3.params.toList Rows.queryFewSpec.vars false W args.toList ds gs before)
    (hk : (DataW.weightsEach Try.prog (Try.f3.params.toList ++ Rows.queryFewSpec.plain.varTypes Try.prog) (ds ++ gs)).all (· ≤ reachBytes) = true) :
    Calls Try.prog 3 args W fun e W' => ∃ v, e = .returned v ∧ Rows.queryFewSpec.post enc Try.prog Try.f3 false true false false W args v W' ∧ W'.os = W.os := by
  have hW' := hW
  obtain ⟨p, q, hA0, hV, rfl, hfz, hnd⟩ := hW
  have hA : DataW.TrodAll enc Try.prog W 0 (fun _ => true) true Try.f3.params.toList args.toList ds p := hA0
  rw [Try.params3] at hA hval hk
  obtain ⟨v0, vs0, d0, ds0, p0, q0, hargs0, rfl, rfl, h0, r0⟩ := trodAll_cons hA
  obtain ⟨v1, vs1, d1, ds1, p1, q1, rfl, rfl, rfl, h1, r1⟩ := trodAll_cons r0
  obtain ⟨v2, vs2, d2, ds2, p2, q2, rfl, rfl, rfl, h2, r2⟩ := trodAll_cons r1
  obtain ⟨v3, vs3, d3, ds3, p3, q3, rfl, rfl, rfl, h3, r3⟩ := trodAll_cons r2
  obtain ⟨rfl, rfl, rfl⟩ := trodAll_nil r3
  obtain rfl : args = #[v0, v1, v2, v3] := by cases args; simp_all
  obtain ⟨rfl, rfl⟩ := trodVars_none hV
  have k0 := h0
  obtain ⟨A0, c0, x0, rfl, R0, S0⟩ := q.open_rules (hval 0 22 v0 rfl rfl) h0
  have k1 := h1
  obtain ⟨A1, c1, x1, rfl, R1, S1, I1⟩ := q.open_intsQ (hval 1 23 v1 rfl rfl) h1
  have k2 := h2
  obtain ⟨x2, rfl, rfl, rfl, wx2⟩ := open_int Try.underlying3 (hval 2 3 v2 rfl rfl) h2
  have k3 := h3
  obtain ⟨x3, rfl, rfl, rfl, wx3⟩ := open_int Try.underlying3 (hval 3 3 v3 rfl rfl) h3
  have n0 := S0.le hk (j := 0) rfl rfl Try.underlying22 (of_decide_eq_true (by kernel_rfl))
  have n1 := S1.le hk (j := 1) rfl rfl Try.underlying23 (of_decide_eq_true (by kernel_rfl))
  clear hA0
  have hin : q.FewIn W A0 x0 A1 x1 := ⟨R0, R1, n0, n1, I1⟩
  have hcall : Calls Try.prog 3 #[.slice A0 x0.length c0, .slice A1 x1.length c1, .int .i64 x2, .int .i64 x3] W fun e w' => e = .returned (.bool true) ∧ Below W.heap.size W w' := by
    by_cases hf : q.faultM x0 = 0
    · exact q.few_good A0 c0 x0 A1 c1 x1 x2 x3 W hin hf (q.i64_wf wx3)
    · exact q.few_bad A0 c0 x0 A1 c1 x1 x2 x3 W hin hf
  refine hcall.mono fun e W' ⟨he, hb⟩ => ?_
  subst he
  exact ⟨_, rfl, ⟨_, _, _, [], _, [], hW', trodAll_cons_mk (shut_bool Try.underlying4 _) trodAll_mk0, (trodAll_cons_mk (Below.trod laidOut (by kernel_rfl) (of_decide_eq_true (by kernel_rfl)) k0 hb (fun x hx => hW'.lt x (by first | exact absurd hx (by simp) | simp [hx]))) (trodAll_cons_mk (Below.trod laidOut (by kernel_rfl) (of_decide_eq_true (by kernel_rfl)) k1 hb (fun x hx => hW'.lt x (by first | exact absurd hx (by simp) | simp [hx]))) (trodAll_cons_mk (Below.trod laidOut (by kernel_rfl) (of_decide_eq_true (by kernel_rfl)) k2 hb (fun x hx => hW'.lt x (by first | exact absurd hx (by simp) | simp [hx]))) (trodAll_cons_mk (Below.trod laidOut (by kernel_rfl) (of_decide_eq_true (by kernel_rfl)) k3 hb (fun x hx => hW'.lt x (by first | exact absurd hx (by simp) | simp [hx]))) trodAll_mk0)))), rfl, hb.frame _, fun h => by cases h⟩, hb.os⟩

set_option maxRecDepth 100000 in
theorem lifted (os : Os) (started : os.Started) (H : Type) (enc : TypeId × Value → H) (F : Stop.Interp) :
    ReturnsInLeavingWide Rows.queryFewRow.assume Try.checked os 3 .any (Rows.queryFewSpec.pre6 enc Try.prog Try.f3 Rows.queryFewRow.domain false) ((OpenSpec.ofChange Rows.queryFewSpec).postWith enc Try.prog Try.f3 F (outsideKept [.timePasses]) false true false) := by
  refine q.leaving_of_calls (C := Try.checked) own started (by kernel_rfl) Try.func3
    (ChangeSpec.witness6c (enc := enc) (C := Try.checked) ⟨#[], #[.slice none 0 0, .slice none 0 0, .int .i64 0, .int .i64 0], []⟩ 8 (by kernel_rfl) (by kernel_rfl) (by kernel_rfl) (by kernel_rfl)) ?_
  intro W base args ds gs before hval hW hk
  exact contract H enc W base args ds gs before hval hW hk

/-- THE ROW -/
theorem proved : Rows.QueryFewSaid :=
  OpenClaim.holds_of_wide_leaving_time 3 Try.f3 rfl rfl rfl rfl rfl rfl rfl ⟨rfl, rfl, rfl, rfl, rfl⟩ rfl rfl rfl rfl rfl (by kernel_rfl) Try.func3 (by kernel_rfl)
    (of_decide_eq_true (by kernel_rfl)) (by unfold Func.isWrapper; first | (rw [if_pos (by decide +kernel)]; kernel_rfl) | (rw [if_neg (by decide +kernel)]; exact ⟨rfl, rfl⟩))
    (fun os started H enc _ F => lifted os started H enc F)
end Go.Proofs.Ytnadldoebfmgmaa.queryFew
