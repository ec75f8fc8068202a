/-
  PROVED: the law TreeAgain, where what it reads is of bulk at most 1048576.
  Conditions: the given row's own (bulk at most 1048576); no other.
-/
import Derived.Test.YtalklmeejdmifaaGreatDoorJay
import Derived.Test.YtalklmeejdmifaaGreatDoorCards
import Derived.Test.YtalklmeejdmifaaGreatDoorTie
import Derived.Carry
import Derived.OpenShut
import Derived.Deep.DeepHandedRow
import Derived.Lib.LaidTab
import Derived.StillTailTactics
import Derived.Handy
import Derived.Deep.RegionHeld3
import Derived.Maps.OwnOps
import Derived.Deep.CutBlock
import Derived.Deep.AppendLies
import Derived.Deep.QuietTactic
import Derived.BigQuiet
import Derived.Lib.RuneBytes
import Derived.Lib.Strings
import Derived.Deep.DeepCutAuto
import Derived.Lib.ConvBytes
import Derived.Laws.Strings3
import Derived.Laws.Closers25
import Derived.Laws.Closers25b
import Derived.BigCall
import Derived.BigGuard
import Derived.Test.YtalklmeejdmifaaGreatDoorShelfX
import Derived.Shelf.Spec.BytesIndexFunc
import Derived.Lib.IndexMore
import Derived.Test.YtalklmeejdmifaaGreatDoorRows
import Derived.WalkKit
import Derived.WalkSpells
import Derived.WalkLawsBesides
import Derived.Below
import Derived.Laws.OwnMore
import Derived.Deep.Draws
import Derived.Lib.Hide
import Derived.IntWalk
import Derived.Test.YtalklmeejdmifaaGreatDoorShelfW
import Derived.Shelf.Strings.SlTrimAscii
import Derived.Lib.AtoiAll
import Derived.Lib.IndexLaws
import Derived.Lib.SlTrimSet
import Derived.Lib.ItoaNum
import Derived.Lib.Atoi
import Derived.WalkMore
import Derived.ScopeJumps
import Derived.Laws.AppendOwnNone
import Derived.Test.YtalklmeejdmifaaGreatDoorShelf
import Derived.Shelf.Strings.Builder1
import Derived.LaidEql
import Derived.Stop.Asserts
import Derived.RowKitTokens
import Derived.ProofKit
import Derived.JoinedCond
import Derived.Deep.Slices
import Derived.Deep.Fields
import Derived.ChangeSame
import Derived.SliceStrings
import Derived.LaidHandle
import Derived.PinnedBridge
import Derived.Lib.LaidU8
import Derived.Lib.LaidIn
import Derived.LaidLaws
import Derived.Stop.Joined
import Derived.Stop.LaidErr
import Derived.Shelf.Vars
namespace Go.Proofs.YtalklmeejdmifaaGreatDoor.treeAgainUpto
open Go.ChangeShapes Go.WideShapes Go.ChangeAt Go.RowKit
open Go.ChangeMaps (open_string shut_string)

theorem own : ownKnob Tryz.prog.godebug = none := by kernel_rfl
theorem laidOut : laidOutB Tryz.prog = true := by kernel_rfl

set_option maxRecDepth 100000 in
theorem contract (H : Type) (enc : TypeId × Value → H) (W : World) (base : Nat) (args : Array Value) (ds gs : List (DataW H)) (before : List MemPlace)
    (hval : ∀ (j : Nat) t v, Tryz.f5.params[j]? = some t → args[j]? = some v → Value.okWide Tryz.prog W .any base t v)
    (hW : DataW.Whole enc Tryz.prog Tryz.f5.params.toList Rows.treeAgainSpec.vars false W args.toList ds gs before) (hk : Rows.uptoSmall H (ds ++ gs) = true)
    (hL : laidMetH Tryz.prog Rows.treeAgainUptoRow.laid W) (hsh : W.ShapedOpen Tryz.prog) :
    Calls Tryz.prog 5 args W fun e W' => ∃ v, e = .returned v ∧ Rows.treeAgainSpec.post enc Tryz.prog Tryz.f5 false true false false W args v W' := by
  have hg := laidW.again_of hL
  obtain ⟨m, hM⟩ := maxL_of hsh
  clear hL hsh
  have hW' := hW
  obtain ⟨p, q, hA0, hV, rfl, hfz, hnd⟩ := hW
  have hA : DataW.TrodAll enc Tryz.prog W 0 (fun _ => true) true Tryz.f5.params.toList args.toList ds p := hA0
  rw [Tryz.params5] at hA hval
  obtain ⟨v0, vs0, d0, ds0, p0, q0, hargs0, rfl, rfl, h0, r0⟩ := trodAll_cons hA
  obtain ⟨v1, vs1, d1, ds1, p1, q1, rfl, rfl, rfl, h1, r1⟩ := trodAll_cons r0
  obtain ⟨v2, vs2, d2, ds2, p2, q2, rfl, rfl, rfl, h2, r2⟩ := trodAll_cons r1
  obtain ⟨rfl, rfl, rfl⟩ := trodAll_nil r2
  obtain rfl : args = #[v0, v1, v2] := by cases args; simp_all
  obtain ⟨rfl, rfl⟩ := trodVars_none hV
  have k0 := h0
  have k1 := h1
  have k2 := h2
  obtain ⟨x0, rfl, rfl, rfl, wx0⟩ := open_string Tryz.underlying9 (hval 0 9 v0 rfl rfl) h0
  obtain ⟨f1, t1, s1, rfl, B1, -, -⟩ := open_span (hval 1 39 v1 rfl rfl) h1
  obtain ⟨f2, t2, s2, rfl, B2, -, -⟩ := open_span (hval 2 39 v2 rfl rfl) h2
  have hbulk := bulks.bound hk
  simp only [List.append_nil, Rows.uptoBulkAll, Rows.uptoBulk, dlen] at hbulk
  clear hA0
  obtain ⟨s0, rfl⟩ : ∃ s : Bs, x0 = ⟨s.toArray⟩ := ⟨x0.data.toList, (Lib.mk_data x0).symm⟩
  have hsz := mk_size s0
  refine (treeAgain_walk s0 f1 t1 f2 t2 s1 s2 m W hM hg.1 hg.2.1 hg.2.2 (by show _ + (_ + _) ≤ _; omega)).mono fun e W' ⟨he, hb⟩ => ?_
  subst he
  exact ⟨_, rfl, _, _, _, [], _, [], hW', trodAll_cons_mk (shut_bool Tryz.underlying4 _) trodAll_mk0, (trodAll_cons_mk (Below.trod laidOut (by kernel_rfl) (of_decide_eq_true (by kernel_rfl)) k0 hb (fun x hx => hW'.lt x (by first | exact absurd hx (by simp) | simp [hx]))) (trodAll_cons_mk (Below.trod laidOut (by kernel_rfl) (of_decide_eq_true (by kernel_rfl)) k1 hb (fun x hx => hW'.lt x (by first | exact absurd hx (by simp) | simp [hx]))) (trodAll_cons_mk (Below.trod laidOut (by kernel_rfl) (of_decide_eq_true (by kernel_rfl)) k2 hb (fun x hx => hW'.lt x (by first | exact absurd hx (by simp) | simp [hx]))) trodAll_mk0))), rfl, hb.frame _, fun h => by cases h⟩

theorem reads (os : Os) {H : Type} (enc : TypeId × Value → H) : ∃ places, DataW.whole enc Tryz.prog ((laidW.againWorld os).forCall (fun _ _ => 0) ⟨#[], #[.string .empty, .agg #[.int .i64 0, .int .i64 0, .string .empty], .agg #[.int .i64 0, .int .i64 0, .string .empty]], []⟩).memory Tryz.f5.params.toList Rows.treeAgainSpec.vars false (#[.string .empty, .agg #[.int .i64 0, .int .i64 0, .string .empty], .agg #[.int .i64 0, .int .i64 0, .string .empty]] : Array Value).toList 8 = some ([.lit (.string []), .agg [.lit (.int .i64 0), .lit (.int .i64 0), .lit (.string [])], .agg [.lit (.int .i64 0), .lit (.int .i64 0), .lit (.string [])]], [], places) :=
  ⟨[], by kernel_rfl⟩

set_option maxRecDepth 100000 in
theorem lifted (os : Os) (started : os.Started) (H : Type) (enc : TypeId × Value → H) (F : Stop.Interp) :
    ReturnsInHanded {} Tryz.checked os 5 .any ((Rows.OpenSpec.upto Rows.treeAgainSpec).preRow enc Tryz.prog Tryz.f5 Rows.treeAgainUptoRow.domain false Rows.treeAgainUptoRow.laid) (((Rows.OpenSpec.upto Rows.treeAgainSpec).at F).post enc Tryz.prog Tryz.f5 false true false false) := by
  obtain ⟨places, hx⟩ := reads os enc
  refine returnsInHanded_of_row (C := Tryz.checked) (s := Rows.OpenSpec.upto Rows.treeAgainSpec) own started (by as_aux_lemma => kernel_rfl) Tryz.func5
    (witness_row_at (enc := enc) (C := Tryz.checked) false (laidW.againWorld os) #[.string .empty, .agg #[.int .i64 0, .int .i64 0, .string .empty], .agg #[.int .i64 0, .int .i64 0, .string .empty]] rfl (by as_aux_lemma => kernel_rfl) (by as_aux_lemma => kernel_rfl) (by as_aux_lemma => kernel_rfl)
      (OpenSpec.preRow_of_cond 8 hx (by as_aux_lemma => kernel_rfl) (fun k hk => by cases hk; as_aux_lemma => kernel_rfl) (by as_aux_lemma => kernel_rfl) (laidW.again_met os _))) ?_
  intro W base args ds gs before hval hW _ hcond _ hL hsh _
  exact contract H enc W base args ds gs before hval hW (hcond _ rfl) hL hsh

set_option maxHeartbeats 16000000 in
theorem closed : joinedFacts Tryz.pinned.checked.prog 5 Tryz.f5 (Rows.OpenSpec.upto Rows.treeAgainSpec).bare Rows.treeAgainUptoRow = true := by
  unfold joinedFacts
  repeat' (with_reducible refine Bool.and_eq_true_iff.2 ⟨?_, ?_⟩)
  all_goals as_aux_lemma => kernel_rfl

theorem said : Rows.TreeAgainUptoSaid :=
  OpenClaim.holds_of_cond 5 Tryz.f5 rfl rfl rfl rfl rfl rfl rfl ⟨rfl, rfl, rfl, rfl, rfl⟩ rfl rfl rfl rfl rfl (by kernel_rfl) Tryz.func5 closed
    (of_decide_eq_true (by kernel_rfl)) (by unfold Func.isWrapper; first | (rw [if_pos (by decide +kernel)]; kernel_rfl) | (rw [if_neg (by decide +kernel)]; exact ⟨rfl, rfl⟩))
    (fun os started H enc _ F => by rw [OpenClaim.pre_eq_preRow]; exact lifted os started H enc F)

/-- no parameter wants a stand-in; the program's own looks are off -/
theorem plain (f : FuncId) (fn : Func) (hf : Tryz.pinned.checked.prog.funcNamed "amanuensis/amanuensislaw2.TreeAgain" = some f) (hfn : Tryz.pinned.checked.prog.funcs[f]? = some fn) :
    true = Tryz.pinned.checked.prog.looks [] ∧ ∀ (j : Nat) t, fn.params[j]? = some t → Tryz.pinned.checked.prog.wantsStandIn t = false := by
  obtain rfl : f = 5 := Option.some.inj ((show Tryz.prog.funcNamed "amanuensis/amanuensislaw2.TreeAgain" = some 5 by kernel_rfl).symm.trans hf) |>.symm
  obtain rfl : fn = Tryz.f5 := (Option.some.inj (Tryz.func5.symm.trans hfn)).symm
  refine ⟨by kernel_rfl, fun j t ht => ?_⟩
  rw [Tryz.params5] at ht
  have hm := Array.mem_of_getElem? ht
  simp only [List.mem_toArray, List.mem_cons, List.mem_nil_iff, or_false] at hm
  have a0 : Tryz.prog.wantsStandIn 9 = false := by kernel_rfl
  have a1 : Tryz.prog.wantsStandIn 39 = false := by kernel_rfl
  rcases hm with rfl | rfl | rfl
  · exact a0
  · exact a1
  · exact a1

/-- THE CARD -/
theorem proved : Rows.TreeAgainUptoCardSaid :=
  Claim7.holds_tied_plain_at .later [] _ _ _ _ said (fun _ h => by cases h) (by kernel_rfl) (fun _ h => by cases h) treeAgainUpto_row_tie rfl ⟨rfl, rfl⟩ (by kernel_rfl) rfl plain (by kernel_rfl)
end Go.Proofs.YtalklmeejdmifaaGreatDoor.treeAgainUpto
