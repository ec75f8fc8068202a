/-
  PROVED: the law ColourBack, where what it reads is of bulk at most 1048576.
  Conditions: the given row's own (bulk at most 1048576); no other.
-/
import Derived.Test.YtcjjfeephaddcaaGreatDoorJaw
import Derived.Test.YtcjjfeephaddcaaGreatDoorCards
import Derived.Test.YtcjjfeephaddcaaGreatDoorTie
import Derived.Carry
import Derived.OpenShut
import Derived.Deep.DeepHandedRow
import Derived.Lib.LaidTab
import Derived.Laws.AppendOwnNone
import Derived.Sort.CutIn
import Derived.RangeFuncNested
import Derived.RangeFuncBound
import Derived.RangeFuncCalls
import Derived.RangeFuncLeaves
import Derived.OwnWalkIn
import Derived.TacticsInMore
import Derived.LoopNIn
import Derived.LoopIn
import Derived.LaidEqlPtr
import Derived.Maps.OwnSet
import Derived.DeepKeys4
import Derived.StillTailTactics
import Derived.Lib.RuneBytes
import Derived.Lib.Strings
import Derived.Handy
import Derived.Deep.RegionHeld3
import Derived.Maps.OwnOps
import Derived.Deep.CutBlock
import Derived.Deep.AppendLies
import Derived.Deep.QuietTactic
import Derived.BigQuiet
import Derived.Deep.DeepCutAuto
import Derived.Lib.ConvBytes
import Derived.Laws.Strings3
import Derived.Laws.Closers25
import Derived.Laws.Closers25b
import Derived.BigCall
import Derived.BigGuard
import Derived.Test.YtcjjfeephaddcaaGreatDoorShelfX
import Derived.Shelf.Spec.BytesIndexFunc
import Derived.Lib.IndexMore
import Derived.Test.YtcjjfeephaddcaaGreatDoorRows
import Derived.WalkKit
import Derived.WalkSpells
import Derived.WalkLawsBesides
import Derived.Below
import Derived.Laws.OwnMore
import Derived.Deep.Draws
import Derived.Lib.Hide
import Derived.IntWalk
import Derived.Test.YtcjjfeephaddcaaGreatDoorShelfW
import Derived.Shelf.Strings.SlTrimAscii
import Derived.Lib.AtoiAll
import Derived.Lib.IndexLaws
import Derived.Lib.SlTrimSet
import Derived.Lib.ItoaNum
import Derived.Lib.Atoi
import Derived.WalkMore
import Derived.ScopeJumps
import Derived.Shelf.SlSorted.Search
import Derived.Shelf.Spec.SlicesGrow
import Derived.Deep.Slices
import Derived.ProofKit
import Derived.JoinedCond
import Derived.Deep.Fields
import Derived.ChangeSame
import Derived.SliceStrings
import Derived.PinnedBridge
import Derived.Lib.LaidU8
import Derived.Lib.LaidIn
import Derived.RowKitTokens
import Derived.LaidLaws
import Derived.Stop.Joined
import Derived.Stop.LaidErr
import Derived.Shelf.Vars
set_option linter.all false
namespace Go.Proofs.YtcjjfeephaddcaaGreatDoor.colourBackUpto
open Go.ChangeShapes Go.WideShapes Go.ChangeAt Go.RowKit
open Go.ChangeMaps (open_string shut_string)

theorem own : ownKnob Tryz.prog.godebug = none := by kernel_rfl
theorem laidOut : laidOutB Tryz.prog = true := by kernel_rfl

set_option maxRecDepth 100000 in
theorem contract (H : Type) (enc : TypeId × Value → H) (W : World) (base : Nat) (args : Array Value) (ds gs : List (DataW H)) (before : List MemPlace)
    (hval : ∀ (j : Nat) t v, Tryz.f8.params[j]? = some t → args[j]? = some v → Value.okWide Tryz.prog W .any base t v)
    (hW : DataW.Whole enc Tryz.prog Tryz.f8.params.toList Rows.colourBackSpec.vars false W args.toList ds gs before) (hk : Rows.uptoSmall H (ds ++ gs) = true)
    (hL : laidMetH Tryz.prog Rows.colourBackUptoRow.laid W) (hsh : W.ShapedOpen Tryz.prog) :
    Calls Tryz.prog 8 args W fun e W' => ∃ v, e = .returned v ∧ Rows.colourBackSpec.post enc Tryz.prog Tryz.f8 false true false false W args v W' := by
  have hg := laidW.col_of hL
  obtain ⟨m, hM⟩ := maxL_of hsh
  clear hL hsh
  have hW' := hW
  obtain ⟨p, q, hA0, hV, rfl, hfz, hnd⟩ := hW
  have hA : DataW.TrodAll enc Tryz.prog W 0 (fun _ => true) true Tryz.f8.params.toList args.toList ds p := hA0
  rw [Tryz.params8] at hA hval
  obtain ⟨v0, vs0, d0, ds0, p0, q0, hargs0, rfl, rfl, h0, r0⟩ := trodAll_cons hA
  obtain ⟨v1, vs1, d1, ds1, p1, q1, rfl, rfl, rfl, h1, r1⟩ := trodAll_cons r0
  obtain ⟨v2, vs2, d2, ds2, p2, q2, rfl, rfl, rfl, h2, r2⟩ := trodAll_cons r1
  obtain ⟨rfl, rfl, rfl⟩ := trodAll_nil r2
  obtain rfl : args = #[v0, v1, v2] := by cases args; simp_all
  obtain ⟨rfl, rfl⟩ := trodVars_none hV
  have k0 := h0
  obtain ⟨A0, c0, x0, rfl, R0, B0⟩ := open_files (hval 0 22 v0 rfl rfl) h0
  have k1 := h1
  obtain ⟨x1, rfl, rfl, rfl, wx1⟩ := open_int Tryz.underlying3 (hval 1 3 v1 rfl rfl) h1
  have k2 := h2
  obtain ⟨x2, rfl, rfl, rfl, wx2⟩ := open_string Tryz.underlying9 (hval 2 9 v2 rfl rfl) h2
  have hbulk := bulks.bound hk
  simp only [List.append_nil, Rows.uptoBulkAll, Rows.uptoBulk, dlen] at hbulk
  clear hA0
  refine (colourBack_walkB R0 hM hg.1 hg.2.1 hg.2.2 (fun f hf => by have h1 := flB_mem hf; have h2 := B0.2; omega) B0.1 (by have h2 := B0.2; omega) x1 x2).mono fun e W' ⟨he, hb⟩ => ?_
  subst he
  exact ⟨_, rfl, _, _, _, [], _, [], hW', trodAll_cons_mk (shut_bool Tryz.underlying4 _) trodAll_mk0, (trodAll_cons_mk (Below.trod laidOut (by kernel_rfl) (of_decide_eq_true (by kernel_rfl)) k0 hb (fun x hx => hW'.lt x (by first | exact absurd hx (by simp) | simp [hx]))) (trodAll_cons_mk (Below.trod laidOut (by kernel_rfl) (of_decide_eq_true (by kernel_rfl)) k1 hb (fun x hx => hW'.lt x (by first | exact absurd hx (by simp) | simp [hx]))) (trodAll_cons_mk (Below.trod laidOut (by kernel_rfl) (of_decide_eq_true (by kernel_rfl)) k2 hb (fun x hx => hW'.lt x (by first | exact absurd hx (by simp) | simp [hx]))) trodAll_mk0))), rfl, hb.frame _, fun h => by cases h⟩

theorem reads (os : Os) {H : Type} (enc : TypeId × Value → H) : ∃ places, DataW.whole enc Tryz.prog ((laidW.colWorld os).forCall (fun _ _ => 0) ⟨#[], #[.slice none 0 0, .int .i64 0, .string .empty], []⟩).memory Tryz.f8.params.toList Rows.colourBackSpec.vars false (#[.slice none 0 0, .int .i64 0, .string .empty] : Array Value).toList 8 = some ([.nil, .lit (.int .i64 0), .lit (.string [])], [], places) :=
  ⟨[], by kernel_rfl⟩

set_option maxRecDepth 100000 in
theorem lifted (os : Os) (started : os.Started) (H : Type) (enc : TypeId × Value → H) (F : Stop.Interp) :
    ReturnsInHanded {} Tryz.checked os 8 .any ((Rows.OpenSpec.upto Rows.colourBackSpec).preRow enc Tryz.prog Tryz.f8 Rows.colourBackUptoRow.domain false Rows.colourBackUptoRow.laid) (((Rows.OpenSpec.upto Rows.colourBackSpec).at F).post enc Tryz.prog Tryz.f8 false true false false) := by
  obtain ⟨places, hx⟩ := reads os enc
  refine returnsInHanded_of_row (C := Tryz.checked) (s := Rows.OpenSpec.upto Rows.colourBackSpec) own started (by as_aux_lemma => kernel_rfl) Tryz.func8
    (witness_row_at (enc := enc) (C := Tryz.checked) false (laidW.colWorld os) #[.slice none 0 0, .int .i64 0, .string .empty] rfl (by as_aux_lemma => kernel_rfl) (by as_aux_lemma => kernel_rfl) (by as_aux_lemma => kernel_rfl)
      (OpenSpec.preRow_of_cond 8 hx (by as_aux_lemma => kernel_rfl) (fun k hk => by cases hk; as_aux_lemma => kernel_rfl) (by as_aux_lemma => kernel_rfl) (laidW.col_met os _))) ?_
  intro W base args ds gs before hval hW _ hcond _ hL hsh _
  exact contract H enc W base args ds gs before hval hW (hcond _ rfl) hL hsh

set_option maxHeartbeats 16000000 in
theorem closed : joinedFacts Tryz.pinned.checked.prog 8 Tryz.f8 (Rows.OpenSpec.upto Rows.colourBackSpec).bare Rows.colourBackUptoRow = true := by
  unfold joinedFacts
  repeat' (with_reducible refine Bool.and_eq_true_iff.2 ⟨?_, ?_⟩)
  all_goals as_aux_lemma => kernel_rfl

theorem said : Rows.ColourBackUptoSaid :=
  OpenClaim.holds_of_cond 8 Tryz.f8 rfl rfl rfl rfl rfl rfl rfl ⟨rfl, rfl, rfl, rfl, rfl⟩ rfl rfl rfl rfl rfl (by kernel_rfl) Tryz.func8 closed
    (of_decide_eq_true (by kernel_rfl)) (by unfold Func.isWrapper; first | (rw [if_pos (by decide +kernel)]; kernel_rfl) | (rw [if_neg (by decide +kernel)]; exact ⟨rfl, rfl⟩))
    (fun os started H enc _ F => by rw [OpenClaim.pre_eq_preRow]; exact lifted os started H enc F)

/-- no parameter wants a stand-in; the program's own looks are off -/
theorem plain (f : FuncId) (fn : Func) (hf : Tryz.pinned.checked.prog.funcNamed "amanuensis/amanuensislaw6.ColourBack" = some f) (hfn : Tryz.pinned.checked.prog.funcs[f]? = some fn) :
    true = Tryz.pinned.checked.prog.looks [] ∧ ∀ (j : Nat) t, fn.params[j]? = some t → Tryz.pinned.checked.prog.wantsStandIn t = false := by
  obtain rfl : f = 8 := Option.some.inj ((show Tryz.prog.funcNamed "amanuensis/amanuensislaw6.ColourBack" = some 8 by kernel_rfl).symm.trans hf) |>.symm
  obtain rfl : fn = Tryz.f8 := (Option.some.inj (Tryz.func8.symm.trans hfn)).symm
  refine ⟨by kernel_rfl, fun j t ht => ?_⟩
  rw [Tryz.params8] at ht
  have hm := Array.mem_of_getElem? ht
  simp only [List.mem_toArray, List.mem_cons, List.mem_nil_iff, or_false] at hm
  have a0 : Tryz.prog.wantsStandIn 22 = false := by kernel_rfl
  have a1 : Tryz.prog.wantsStandIn 3 = false := by kernel_rfl
  have a2 : Tryz.prog.wantsStandIn 9 = false := by kernel_rfl
  rcases hm with rfl | rfl | rfl
  · exact a0
  · exact a1
  · exact a2

/-- THE CARD -/
theorem proved : Rows.ColourBackUptoCardSaid :=
  Claim7.holds_tied_plain_at .later [] _ _ _ _ said (fun _ h => by cases h) (by kernel_rfl) (fun _ h => by cases h) colourBackUpto_row_tie rfl ⟨rfl, rfl⟩ (by kernel_rfl) rfl plain (by kernel_rfl)
end Go.Proofs.YtcjjfeephaddcaaGreatDoor.colourBackUpto
