/-
  PROVED: what is cancelled leaves no trace
  Conditions: none but the given row's own.
-/
import Derived.Test.YtnadldoebfmgmaaDoorCards
import Derived.Test.YtnadldoebfmgmaaDoorTie
import Derived.Test.YtnadldoebfmgmaaDoorLaidQ
import Derived.Test.YtnadldoebfmgmaaDoorQY
import Derived.Test.YtnadldoebfmgmaaDoorAW
import Derived.Carry
import Derived.OpenShut
import Derived.Deep.DeepHandedRow
import Derived.Lib.LaidTab
namespace Go.Proofs.YtnadldoebfmgmaaDoor.queryCancels
open Go.ChangeShapes Go.WideShapes Go.ChangeAt Go.RowKit

theorem own : ownKnob Tryd.prog.godebug = none := by kernel_rfl
theorem laidOut : laidOutB Tryd.prog = true := by kernel_rfl

set_option maxRecDepth 100000 in
theorem contract (H : Type) (enc : TypeId × Value → H) (W : World) (base : Nat) (args : Array Value) (ds gs : List (DataW H)) (before : List MemPlace)
    (hval : ∀ (j : Nat) t v, Tryd.f4.params[j]? = some t → args[j]? = some v → Value.okWide Tryd.prog W .any base t v)
    (hW : DataW.Whole enc Tryd.prog Tryd.f4.params.toList Rows.queryCancelsSpec.vars false W args.toList ds gs before)
    (hk : (DataW.weightsEach Tryd.prog (Tryd.f4.params.toList ++ Rows.queryCancelsSpec.plain.varTypes Tryd.prog) (ds ++ gs)).all (· ≤ reachBytes) = true)
    (hL : laidMetH Tryd.prog Rows.queryCancelsRow.laid W) :
    Calls Tryd.prog 4 args W fun e W' => ∃ v, e = .returned v ∧ Rows.queryCancelsSpec.post enc Tryd.prog Tryd.f4 false true false false W args v W' := by
  have hL' : laidMet Tryd.prog [] W ∧ handlesMet Tryd.prog Rows.queryCancelsRow.laid W := hL
  have hg := laidE.of_ hL'.2
  clear hL hL'
  have hW' := hW
  obtain ⟨p, q, hA0, hV, rfl, hfz, hnd⟩ := hW
  have hA : DataW.TrodAll enc Tryd.prog W 0 (fun _ => true) true Tryd.f4.params.toList args.toList ds p := hA0
  rw [Tryd.params4] at hA hval hk
  obtain ⟨v0, vs0, d0, ds0, p0, q0, hargs0, rfl, rfl, h0, r0⟩ := trodAll_cons hA
  obtain ⟨v1, vs1, d1, ds1, p1, q1, rfl, rfl, rfl, h1, r1⟩ := trodAll_cons r0
  obtain ⟨v2, vs2, d2, ds2, p2, q2, rfl, rfl, rfl, h2, r2⟩ := trodAll_cons r1
  obtain ⟨v3, vs3, d3, ds3, p3, q3, rfl, rfl, rfl, h3, r3⟩ := trodAll_cons r2
  obtain ⟨rfl, rfl, rfl⟩ := trodAll_nil r3
  obtain rfl : args = #[v0, v1, v2, v3] := by cases args; simp_all
  obtain ⟨rfl, rfl⟩ := trodVars_none hV
  have k0 := h0
  obtain ⟨A0, c0, x0, rfl, R0, S0⟩ := q.open_rules (hval 0 22 v0 rfl rfl) h0
  have n0 := S0.leR hk (j := 0) rfl rfl Tryd.underlying22 (of_decide_eq_true (by kernel_rfl))
  have k1 := h1
  obtain ⟨A1, c1, x1, rfl, R1, S1, I1⟩ := q.open_intsQ (hval 1 23 v1 rfl rfl) h1
  have n1 := S1.le hk (j := 1) rfl rfl Tryd.underlying23 (of_decide_eq_true (by kernel_rfl))
  have k2 := h2
  obtain ⟨x2, rfl, rfl, rfl, wx2⟩ := open_int Tryd.underlying3 (hval 2 3 v2 rfl rfl) h2
  have k3 := h3
  obtain ⟨x3, rfl, rfl, rfl, wx3⟩ := open_int Tryd.underlying3 (hval 3 3 v3 rfl rfl) h3
  clear hA0
  have hcall : Calls Tryd.prog 4 #[.slice A0 x0.length c0, .slice A1 x1.length c1, .int .i64 x2, .int .i64 x3] W fun e w' => e = .returned (.bool true) ∧ Below W.heap.size W w' := by
    have hin : q.CanIn W A0 x0 A1 x1 := ⟨R0, R1, n1, I1, hg⟩
    by_cases hf : q.faultM x0 = 0
    · exact q.canc_good A0 c0 x0 A1 c1 x1 x2 x3 W hin hf (q.i64_wf wx3)
    · exact q.canc_bad A0 c0 x0 A1 c1 x1 x2 x3 W hin hf
  refine hcall.mono fun e W' ⟨he, hb⟩ => ?_
  subst he
  exact ⟨_, rfl, _, _, _, [], _, [], hW', trodAll_cons_mk (shut_bool Tryd.underlying4 _) trodAll_mk0, (trodAll_cons_mk (Below.trod laidOut (by kernel_rfl) (of_decide_eq_true (by kernel_rfl)) k0 hb (fun x hx => hW'.lt x (by first | exact absurd hx (by simp) | simp [hx]))) (trodAll_cons_mk (Below.trod laidOut (by kernel_rfl) (of_decide_eq_true (by kernel_rfl)) k1 hb (fun x hx => hW'.lt x (by first | exact absurd hx (by simp) | simp [hx]))) (trodAll_cons_mk (Below.trod laidOut (by kernel_rfl) (of_decide_eq_true (by kernel_rfl)) k2 hb (fun x hx => hW'.lt x (by first | exact absurd hx (by simp) | simp [hx]))) (trodAll_cons_mk (Below.trod laidOut (by kernel_rfl) (of_decide_eq_true (by kernel_rfl)) k3 hb (fun x hx => hW'.lt x (by first | exact absurd hx (by simp) | simp [hx]))) trodAll_mk0)))), rfl, hb.frame _, fun h => by cases h⟩

set_option maxRecDepth 100000 in
theorem lifted (os : Os) (started : os.Started) (H : Type) (enc : TypeId × Value → H) :
    ReturnsInHanded {} Tryd.checked os 4 .any (fun w args => (Rows.queryCancelsSpec.pre enc Tryd.prog Tryd.f4 Rows.queryCancelsRow.domain false w args ∧ laidMetH Tryd.prog Rows.queryCancelsRow.laid w) ∧ sizedMet enc Tryd.prog Tryd.f4 (OpenSpec.ofChange Rows.queryCancelsSpec) false w args)
      (Rows.queryCancelsSpec.post enc Tryd.prog Tryd.f4 false true false false) := by
  refine returnsInHanded_of_change_and (C := Tryd.checked) (X := fun w _ => laidMetH Tryd.prog Rows.queryCancelsRow.laid w) (fun _ _ _ hh h => h.of_heap hh) own started (by kernel_rfl) Tryd.func4
    (ChangeSpec.witness_at (enc := enc) (C := Tryd.checked) (os := os) (X := fun w _ => laidMetH Tryd.prog Rows.queryCancelsRow.laid w) false (laidE.laidWorld os) #[.slice none 0 0, .slice none 0 0, .int .i64 0, .int .i64 0] 8 rfl (by kernel_rfl) (by kernel_rfl) (by kernel_rfl) (by kernel_rfl) (by kernel_rfl) (laidE.met os _)) ?_
  intro W base args ds gs before hval hW _ hk hL _
  exact contract H enc W base args ds gs before hval hW hk hL

theorem said : Rows.QueryCancelsSaid :=
  OpenClaim.holds_of_wide 4 Tryd.f4 rfl rfl rfl rfl rfl rfl rfl ⟨rfl, rfl, rfl, rfl, rfl⟩ rfl rfl rfl rfl rfl (by kernel_rfl) Tryd.func4 (by kernel_rfl)
    (of_decide_eq_true (by kernel_rfl)) (by unfold Func.isWrapper; first | (rw [if_pos (by decide +kernel)]; kernel_rfl) | (rw [if_neg (by decide +kernel)]; exact ⟨rfl, rfl⟩))
    (fun os started H enc _ => lifted os started H enc)

/-- no parameter wants a stand-in; the program's own looks are off -/
theorem plain (f : FuncId) (fn : Func) (hf : Tryd.pinned.checked.prog.funcNamed "amanuensis/amanuensislaw4.QueryCancels" = some f) (hfn : Tryd.pinned.checked.prog.funcs[f]? = some fn) :
    true = Tryd.pinned.checked.prog.looks [] ∧ ∀ (j : Nat) t, fn.params[j]? = some t → Tryd.pinned.checked.prog.wantsStandIn t = false := by
  obtain rfl : f = 4 := Option.some.inj ((show Tryd.prog.funcNamed "amanuensis/amanuensislaw4.QueryCancels" = some 4 by kernel_rfl).symm.trans hf) |>.symm
  obtain rfl : fn = Tryd.f4 := (Option.some.inj (Tryd.func4.symm.trans hfn)).symm
  refine ⟨by kernel_rfl, fun j t ht => ?_⟩
  rw [Tryd.params4] at ht
  have hm := Array.mem_of_getElem? ht
  simp only [List.mem_toArray, List.mem_cons, List.mem_nil_iff, or_false] at hm
  have a0 : Tryd.prog.wantsStandIn 22 = false := by kernel_rfl
  have a1 : Tryd.prog.wantsStandIn 23 = false := by kernel_rfl
  have a2 : Tryd.prog.wantsStandIn 3 = false := by kernel_rfl
  have a3 : Tryd.prog.wantsStandIn 3 = false := by kernel_rfl
  rcases hm with rfl | rfl | rfl | rfl
  · exact a0
  · exact a1
  · exact a2
  · exact a3

/-- THE CARD -/
theorem proved : Rows.QueryCancelsCardSaid :=
  Claim7.holds_tied_plain_at .later [] _ _ _ _ said (fun _ h => by cases h) (by kernel_rfl) (fun _ h => by cases h) queryCancels_row_tie rfl ⟨rfl, rfl⟩ (by kernel_rfl) rfl plain (by kernel_rfl)
end Go.Proofs.YtnadldoebfmgmaaDoor.queryCancels
