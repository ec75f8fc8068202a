/-
  PROVED: the law ScopeResolves, where what it reads is of bulk at most 1048576.
  Conditions: the given row's own (bulk at most 1048576); no other.
-/
import Derived.Test.YtcjjfeephaddcaaGreatDoorJbh
import Derived.Test.YtcjjfeephaddcaaGreatDoorCards
import Derived.Test.YtcjjfeephaddcaaGreatDoorTie
import Derived.Deep.DeepHandedRow
set_option linter.all false
open Go.Proofs.Tryz renaming prog->aBS,f4->aEW
open Option renaming some->aDB
set_option maxHeartbeats 64000000
set_option maxRecDepth 100000
namespace Go.Proofs.YtcjjfeephaddcaaGreatDoor.scopeResolvesUpto
open Go.ChangeShapes Go.WideShapes Go.ChangeAt Go.RowKit
open Go.ChangeMaps (open_string shut_string)
theorem own:ownKnob aBS.godebug=none:=by kernel_rfl
theorem laidOut:laidOutB aBS=true:=by kernel_rfl
theorem contract(H:Type)(enc:TypeId×Value->H)(W:World)(base:Nat)(args:Array Value)(ds gs:List (DataW H))(before:List MemPlace)
    (hval: ∀(j:Nat) t v,aEW.params[j]? =some t->args[j]? =some v->Value.okWide aBS W .any base t v)
    (hW:DataW.Whole enc aBS aEW.params.toList Rows.scopeResolvesSpec.vars false W args.toList ds gs before) (hk:Rows.uptoSmall H (ds++gs)=true)
    (hL:laidMetH aBS Rows.scopeResolvesUptoRow.laid W) (hsh:W.ShapedOpen aBS):
    Calls aBS 4 args W fun e W'=> ∃v,e=.returned v/\Rows.scopeResolvesSpec.post enc aBS aEW false true false false W args v W':=by
  have hg:=LM.Vv hL;obtain⟨m,hM⟩:=aa hsh;clear hL hsh;have hW':=hW;obtain⟨p,q,hA0,hV,rfl,hfz,hnd⟩:=hW;have hA:DataW.TrodAll enc aBS W 0 (fun _=>true) true aEW.params.toList args.toList ds p:=hA0;rw[Tryz.params4] at hA hval;obtain⟨v0,vs0,d0,ds0,p0,q0,hargs0,rfl,rfl,h0,r0⟩:=trodAll_cons hA;obtain⟨rfl,rfl,rfl⟩:=trodAll_nil r0;obtain rfl:args=#[v0]:=(by cases args;simp_all);obtain⟨rfl,rfl⟩:=trodVars_none hV;have k0:=h0;obtain⟨A0,c0,x0,rfl,R0,B0⟩:=U3 (hval 0 22 v0 rfl rfl) h0;have aBw:Rows.uptoBulkAll ([d0]++[])<=1048576:=of_decide_eq_true hk;simp only[List.append_nil,Rows.uptoBulkAll] at aBw;clear hA0;refine(yY R0 hM hg.1 hg.2.1 hg.2.2 (fun f hf=>by have h1:=jo hf;have h2:=B0.2;omega) B0.1 (by have h2:=B0.2;omega) (fun h w' A' c' hf hd=>Ik hf h)).mono fun e W' ⟨he,hb⟩=> ?_
  subst he;exact⟨_,rfl,_,_,_,[],_,[],hW',trodAll_cons_mk (shut_bool Tryz.underlying4 _) trodAll_mk0,(trodAll_cons_mk (Below.trod laidOut (by kernel_rfl) (of_decide_eq_true (by kernel_rfl)) k0 hb (fun x hx=>hW'.lt x (by first|exact absurd hx (by simp)|simp[hx]))) trodAll_mk0),rfl,hb.frame _,fun h=>by cases h⟩
theorem reads(os:Os){H:Type}(enc:TypeId×Value->H): ∃places,DataW.whole enc aBS ((LM.vW os).forCall (fun _ _=>0) ⟨#[],#[.slice none 0 0],[]⟩).memory aEW.params.toList Rows.scopeResolvesSpec.vars false (#[.slice none 0 0]:Array Value).toList 8=some ([.nil],[],places):=
  ⟨[],by kernel_rfl⟩
theorem lifted(os:Os)(started:os.Started)(H:Type)(enc:TypeId×Value->H)(F:Stop.Interp):
    ReturnsInHanded {} Tryz.checked os 4 .any ((Rows.OpenSpec.upto Rows.scopeResolvesSpec).preRow enc aBS aEW Rows.scopeResolvesUptoRow.domain false Rows.scopeResolvesUptoRow.laid) (((Rows.OpenSpec.upto Rows.scopeResolvesSpec).at F).post enc aBS aEW false true false false):=by
  obtain⟨places,hx⟩:=reads os enc;refine returnsInHanded_of_row (C:=Tryz.checked) (s:=Rows.OpenSpec.upto Rows.scopeResolvesSpec) own started (by as_aux_lemma=>kernel_rfl) Tryz.func4
    (witness_row_at (enc:=enc) (C:=Tryz.checked) false (LM.vW os) #[.slice none 0 0] rfl (by as_aux_lemma=>kernel_rfl) (by as_aux_lemma=>kernel_rfl) (by as_aux_lemma=>kernel_rfl)
      (OpenSpec.preRow_of_cond 8 hx (by as_aux_lemma=>kernel_rfl) (fun k hk=>by cases hk;as_aux_lemma=>kernel_rfl) (by as_aux_lemma=>kernel_rfl) (LM.Mk os _))) ?_
  intro W base args ds gs before hval hW _ hcond _ hL hsh _;exact contract H enc W base args ds gs before hval hW (hcond _ rfl) hL hsh
theorem closed:joinedFacts Tryz.pinned.checked.prog 4 aEW (Rows.OpenSpec.upto Rows.scopeResolvesSpec).bare Rows.scopeResolvesUptoRow=true:=by
  unfold joinedFacts
  repeat' (with_reducible refine Bool.and_eq_true_iff.2 ⟨?_,?_⟩)
  all_goals as_aux_lemma=>kernel_rfl
theorem said:Rows.ScopeResolvesUptoSaid:=
  OpenClaim.holds_of_cond 4 aEW rfl rfl rfl rfl rfl rfl rfl ⟨rfl,rfl,rfl,rfl,rfl⟩ rfl rfl rfl rfl rfl (by kernel_rfl) Tryz.func4 closed
    (of_decide_eq_true (by kernel_rfl)) (by unfold Func.isWrapper;first|(rw[if_pos (by decide+kernel)];kernel_rfl)|(rw[if_neg (by decide+kernel)];exact⟨rfl,rfl⟩))
    (fun os started H enc _ F=>by rw[OpenClaim.pre_eq_preRow];exact lifted os started H enc F)
theorem plain(f:FuncId)(fn:Func)(hf:Tryz.pinned.checked.prog.funcNamed "amanuensis/amanuensislaw3.ScopeResolves" =some f)(hfn:Tryz.pinned.checked.prog.funcs[f]? =some fn):
    true=Tryz.pinned.checked.prog.looks []/\∀(j:Nat) t,fn.params[j]? =some t->Tryz.pinned.checked.prog.wantsStandIn t=false:=by
  obtain rfl:f=4:=aDB.inj ((show aBS.funcNamed "amanuensis/amanuensislaw3.ScopeResolves" =some 4 by kernel_rfl).symm.trans hf)|>.symm;obtain rfl:fn=aEW:=(aDB.inj (Tryz.func4.symm.trans hfn)).symm;refine⟨by kernel_rfl,fun j t ht=> ?_⟩;rw[Tryz.params4] at ht;have hm:=Array.mem_of_getElem? ht;simp only[List.mem_toArray,List.mem_cons,List.mem_nil_iff,or_false] at hm;have a0:aBS.wantsStandIn 22=false:=(by kernel_rfl);subst hm
  · exact a0
theorem proved:Rows.ScopeResolvesUptoCardSaid:=
  Claim7.holds_tied_plain_at .later [] _ _ _ _ said (fun _ h=>by cases h) (by kernel_rfl) (fun _ h=>by cases h) scopeResolvesUpto_row_tie rfl ⟨rfl,rfl⟩ (by kernel_rfl) rfl plain (by kernel_rfl)
end Go.Proofs.YtcjjfeephaddcaaGreatDoor.scopeResolvesUpto
