import Derived.Test.YtcjjfeephaddcaaGreatDoorJan
set_option linter.all false
open Go.Fence renaming wide->aFL
open Go.IntKind renaming i64->aCQ
open Go.IntWalk renaming i64_in->aCV
open Go.Lib renaming run_eql_slice_nil->aGN
open Go.Proofs.Tryz renaming prog->aBS
open Go.RowKit.Below renaming refl->aBU
open Go.World renaming cell?_of_block->aCM
open List renaming getElem?_eq_getElem->aBY,length_cons->aCC,getElem?_eq_some_iff->aCD,mem_singleton->aCH,cons_append->aCT,nil_append->aCU,getElem?_append_left->aDM,nodup_append->aEC,getElem?_eq_none->aEX,length_nil->aFS,sizeOf_lt_of_mem->aGV
open Nat renaming le_refl->aBT,le_trans->aBV,zero_le->aBZ,lt_of_lt_of_le->aCF,lt_or_ge->aCN
open SizeOf renaming sizeOf->aFC
set_option maxHeartbeats 64000000
set_option maxRecDepth 100000
open Go.Proofs.Tryz
namespace Go.Proofs.YtcjjfeephaddcaaGreatDoor
open Go.RowKit Go.Maps
variable{w w':World}{a:Act}{A:Option Addr}{B c g k m n:Nat}{F P:Nat->Prop}{ws:List (Option Sc.Wd)}{vs:List Value}{p:Tr.PT}{l:List Tr.PT}{x:Sc.It}{T:List TypeId}{tw:Bool}
def UH(ops:Array Oper):Bool:=ops.toList.all fun o=>match o.op with
 | .defer _=>false
 |_=>true
section
variable{P:Program}{ops:Array Oper}{Q:Exit->Act->World->Prop}{md:Region.Mode}{l n:Nat}
theorem TV{row:String}{args:Array Value}{R:Value->World->Prop}(h:Rows P row args w R):RowsIn (aFL.inRound l) n P row args w R:=
 fun c cs _=>let ⟨v,w',r,s⟩:=h c cs;⟨v,w',r,stepsIn_wide.2 s⟩
theorem Jc{o:Oper}(hd: ∀c,o.op≠ .defer c){K:Act->World->Prop}(h:o.wp P a w K Q):o.wpIn (aFL.inRound l) n P a w K Q:=by
 unfold Oper.wp at h;refine⟨fun _ _=>trivial,?_⟩;rw[Oper.semAt_eq _ _ _ hd];generalize(execOp a.eval o).run P w=r at *;cases r with
 |ok x w'=>
  cases x<;>first|exact h|exact⟨fun e=>(by cases e),CallsIn.inRound l (callsIn_wide.2 h)⟩|exact⟨fun e=>(by cases e),TV h⟩|exact h.elim
 |halt x w'=>cases x<;>exact h
theorem Zu(hno: ¬LetsOut Q)(hd:UH ops=true){i:Nat}{K:Act->World->Prop}(h:wpOp P ops Q i K a w):wpOpIn (aFL.inRound l) n P ops Q i K a w:=by
 unfold wpOp at h;unfold wpOpIn;cases ho:ops[i]? with
 |none=>rw[ho] at h;exact h
 |some o=>
  rw[ho] at h;dsimp only at h⊢;have hdo: ∀c,o.op≠ .defer c:=fun c e=>by have h1:=List.all_eq_true.1 hd o (Array.mem_toList_iff.2 (Array.mem_of_getElem? ho));rw[e] at h1;cases h1
  split
  ·rename_i hw;rw[if_pos hw] at h;rcases h with h|h
   ·exact Jc hdo h
   ·exact absurd h.2 hno
  ·rename_i hw;rw[if_neg hw] at h;exact⟨fun _ _=>trivial,h⟩
theorem I4(hno: ¬LetsOut Q)(hd:UH ops=true): ∀(fuel:Nat) (listed:Array Bool) (a:Act) (w:World),wpAny P md ops Q fuel listed a w->wpAnyIn (aFL.inRound l) n P md ops Q fuel listed a w
 |0,_,_,_,h=>h
 |fuel+1,_,_,_,h=>⟨h.1,fun i hi=>wpOpIn_mono (fun a w h'=>I4 hno hd fuel _ a w h') (Zu hno hd (h.2 i hi))⟩
theorem UB{id:Nat}{a:Act}{w:World}(L:Nat)(S:World->Prop)(hno: ¬LetsOut Q)(hd:UH ops=true)(hm:P.follows .mixedOrders=true)
  (h:iQ P .any ops Q S L ops.size (Array.replicate ops.size false) a w.drew):(Code.region id ops true).wpIn (aFL.inRound l) n P Q a w:=
 wpIn_region_any hm (I4 hno hd _ _ _ _ (zU _ _ _ _ h))
end
attribute [local go_sem] Oper.semAt_some
def uR(n k:Nat):List Nat:=(List.range k).map fun t=>n-1-t
theorem SG(n k:Nat):uR n (k+1)=uR n k++[n-1-k]:=by simp[uR,List.range_succ]
theorem Ul(n k:Nat):(uR n k).length=k:=by simp[uR]
def zL(vs:List Value)(j:Nat):Value:=vs[j]?.getD (oZZ)
def tN(ws:List (Option Sc.Wd))(j:Nat):Option Sc.Wd:=ws[j]?.getD none
def GQ(x:Option Sc.Wd)(e:Sc.Env):Sc.Env:=match x with
 |some y=>(y.text,y.at_)::e
 |none=>e
def VI(ws:List (Option Sc.Wd))(e:Sc.Env)(pre:List Nat):Sc.Env:=pre.foldl (fun e j=>GQ (tN ws j) e) e
theorem Kz(ws:List (Option Sc.Wd))(e:Sc.Env)(pre:List Nat)(j:Nat):VI ws e (pre++[j])=GQ (tN ws j) (VI ws e pre):=by unfold VI;rw[List.foldl_append];rfl
theorem La(ws:List (Option Sc.Wd))(e:Sc.Env):VI ws e (uR ws.length ws.length)=Sc.dS ws e:=by
 have h1:(uR ws.length ws.length).map (tN ws)=ws.reverse:=by
  apply List.ext_getElem
  ·simp[uR]
  ·intro i h1 h2;simp[uR,tN] at h1⊢;rw[aBY (by omega)];rfl
 unfold VI;have h2: ∀(l:List Nat) (e:Sc.Env),l.foldl (fun e j=>GQ (tN ws j) e) e=(l.map (tN ws)).foldl (fun e x=>GQ x e) e:=fun l e=>by rw[List.foldl_map]
 rw[h2,h1,List.foldl_reverse];rfl
def xx(n₀ Bs:Nat)(W W':World):Prop:=Below n₀ W W'/\W'.heap[Bs]? =W.heap[Bs]?
theorem xx.t {n₀ Bs:Nat}{A B C:World}(h:xx n₀ Bs A B)(k:xx n₀ Bs B C):xx n₀ Bs A C:=⟨h.1.trans k.1,k.2.trans h.2⟩
theorem Vl(n:Nat)(hn:1<=n)(l Bs n₀:Nat)(A:Option Addr)(c:Nat)(vs:List Value)(hl:vs.length<=1000000000)(J Jx:List Nat->World->Prop)
  (hY: ∀(pre:List Nat) (x:Nat) (W:World),J pre W->pre.length<vs.length->YieldAt aFL (n-1) aBS l #[vZZ x,zL vs x] W fun e W'=>(e=.returned (.bool true)/\J (pre++[x]) W'/\xx n₀ Bs W W')\/(e=.returned (.bool false)/\Jx (pre++[x]) W'))
  (W:World) (Er:W.cell? ⟨Bs,0,none⟩=some (.slice A vs.length c)) (hc: ∀j,j<vs.length->∃br o,A=some ⟨br,o,none⟩/\br<n₀/\W.cell? ⟨br,o+j,none⟩=some (zL vs j)) (h0:J [] W):
  CallsIn aFL n aBS 247 #[.func (.yield l) #[] #[],pZZ Bs] W fun e W'=>(∃v,e=.returned v)/\
   ((∃ys,ys=uR vs.length vs.length/\J ys W')\/(∃pre,(∃k,k<=vs.length/\pre=uR vs.length k)/\Jx pre W')):=by
 refine callsIn_of_wp func247 rfl trivial ?_ rfl;simp only[ntmps247,List.size_toArray,aCC,aFS,Nat.reduceAdd,Nat.reduceSub,Array.replicate_succ,Array.replicate_zero,List.push_toArray,List.append_toArray,aCU,aCT];have c0:aCQ.wrap ((vs.length:Int)-1)=(vs.length:Int)-1:=aCV _ (by omega)
 gi_wp2
 gi_loopw [3] (fun i wr=> ∃k:Nat,k<=vs.length/\i=kZZ ((vs.length:Int)-1-(k:Int))/\J (uR vs.length k) wr/\xx n₀ Bs W wr)
  (fun i _=>(intOf i+1).toNat)
 case atStart=>exact⟨0,aBZ _,by simp,h0,aBU _ _,rfl⟩
 case round=>
  obtain⟨k,hk,rfl,hJs,hnx⟩:=hrel
  by_cases hlt:k<vs.length
  ·obtain⟨br,o,rfl,hbr,hcj⟩:=hc (vs.length-1-k) (by omega);have hcx':=(hnx.1.cell (p:=⟨br,o+(vs.length-1-k),none⟩) hbr).trans hcj;have hbx':=(aCM (a:=⟨Bs,0,none⟩) hnx.2).trans Er;obtain⟨j,hj⟩:=dC (vs.length-1-k);have e1:(vs.length:Int)-1-(k:Int)=(j:Int):=(by omega);rw[<-hj] at hcx';rw[e1];obtain⟨fn,tmps,assign,body,hy,hR⟩:=hY _ j wr hJs (by rw[Ul];exact hlt);have i0:=iZ j;have i1:=jJ j vs.length;have c1:aCQ.wrap ((j:Int)-1)=(j:Int)-1:=aCV _ (by omega);have Hj:=aB hj;have He1:=aB e1;have bZ:=aB hlt;clear hj e1 hcj hlt hk
   gi_wp2
   refine hR.mono ?_;rintro e W3 (⟨rfl,hJ3,hk3⟩|⟨rfl,hJx3⟩)
   ·gi_wp2
    go_roundw
    case rel=>exact⟨k+1,bZ.o,by have:=He1.o;congr 1;omega,by rw[SG,<-Hj.o];exact hJ3,hnx.t hk3⟩
    case measure=>have:=He1.o;have:=bZ.o;simp[intOf]
   ·gi_wp2
    refine bodyPost_ret (results_none rfl _ _ _) rfl ?_;exact⟨⟨_,rfl⟩,.inr ⟨_,⟨k+1,bZ.o,by rw[SG,<-Hj.o]⟩,hJx3⟩⟩
  ·obtain rfl:k=vs.length:=(by omega);have e1:(vs.length:Int)-1-(vs.length:Int)= -1:=(by omega);rw[e1]
   gi_wp2
   go_end0;exact⟨⟨_,rfl⟩,.inl ⟨_,rfl,hJs⟩⟩
theorem Bc(n:Nat)(hn:1<=n)(Bs n₀:Nat)(A:Option Addr)(c:Nat)(vs:List Value)(hl:vs.length<=1000000000)(w:World)(Er:Bs<w.heap.size)(hn₀:n₀<=w.heap.size)
  (hb:w.cell? ⟨Bs,0,none⟩=some (.slice A vs.length c)) (hc: ∀j,j<vs.length->∃br o,A=some ⟨br,o,none⟩/\br<n₀/\w.cell? ⟨br,o+j,none⟩=some (zL vs j)):
  SeqStopsK aFL n aBS 247 #[pZZ Bs] (fun x:Nat=>#[vZZ x,zL vs x]) (xx n₀ Bs) (fun ys=>ys=uR vs.length vs.length) (fun _=>True) vs.length w:=fun l J Jx W hW _ _ hY h0=>by
 refine(Vl n hn l Bs n₀ A c vs hl J Jx hY W ((hW.cell (p:=⟨Bs,0,none⟩) Er).trans hb) (fun j hj=> ?_) h0).mono ?_
 ·obtain⟨br,o,e,hbr,hcc⟩:=hc j hj;exact⟨br,o,e,hbr,(hW.cell (p:=⟨br,o+j,none⟩) (aCF hbr hn₀)).trans hcc⟩
 ·rintro e W' ⟨he,⟨ys,rfl,hj⟩|⟨pre,_,hj⟩⟩
  ·exact⟨he,.inl ⟨_,rfl,hj⟩⟩
  ·exact⟨he,.inr ⟨_,trivial,hj⟩⟩
theorem Me(A:Option Addr)(n c:Nat)(w:World):Calls aBS 237 #[.slice A n c] w fun e w'=>e=.returned (.func (.func 247) #[] #[.pointer (some ⟨w.heap.size,0,none⟩)])/\w'=w.alloc (.cells #[.slice A n c] 232):=by
 go_enter func237,ntmps237
 go_wp2_with fail;go_ret;exact⟨rfl,rfl⟩
theorem jX.val (h:jX w F ws vs)(j:Nat):wI w F (tN ws j) (zL vs j):=by
 unfold tN zL;rcases aCN j ws.length with hj|hj
 ·obtain⟨v,hv,hx⟩:=h.at_ hj;rw[hv,aBY hj];exact hx
 ·rw[aEX hj,aEX (by rw[h.len];exact hj)];rfl
def InI(r0:Nat)(ws:List (Option Sc.Wd))(env:Sc.Env)(pre:List Nat)(W:World):Prop:= ∃q,aV W r0 329 #[.pointer q]/\kJ W (fun _=>True) (VI ws env pre) q/\r0+2<=W.heap.size
theorem aV.kept {W W':World}{row:Option Nat}{t:TypeId}{cs:Array Value}(h:aV W g t cs)(hg:W.grownBy W' row)(hr: ∀r,row=some r->∃o:Obj,W.heap[r]? =some o/\o.isCells=false):aV W' g t cs:=
 (hg.block g h.lt fun e=>by obtain⟨o,h1,h2⟩:=hr g e.symm;unfold aV at h;rw[h] at h1;injection h1 with h1;subst h1;cases h2).trans h
theorem kJ.kept {W W':World}{row:Option Nat}(hg:W.grownBy W' row)(hr: ∀r,row=some r->∃o:Obj,W.heap[r]? =some o/\o.isCells=false): ∀{e:Sc.Env} {p:Option Addr},kJ W F e p->kJ W' F e p
 | [],_,h=>h
 |y::e,p,h=>by obtain⟨g,q,e1,hF,hB,he⟩:=h;exact⟨g,q,e1,hF,hB.kept hg hr,kJ.kept hg hr he⟩
theorem bz(r0:Nat)(ws:List (Option Sc.Wd))(env:Sc.Env):Own (InI r0 ws env):=fun s W W' row hs hg hr=>by
 obtain⟨q,h1,h2,h3⟩:=hs;exact⟨q,h1.kept hg hr,h2.kept hg hr,aBV h3 hg.size⟩
theorem kJ.aBi {e:Sc.Env}{p:Option Addr}(h:kJ w F e p):kJ w (fun _=>True) e p:=h.keep fun _ _ _=>⟨rfl,trivial⟩
def InS(r0 g:Nat)(y:Sc.Wd)(q:Option Addr)(w':World):Prop:=w'.cell? ⟨g,0,none⟩=some (.string ⟨y.text.toArray⟩)/\w'.cell? ⟨g,1,none⟩=some (kZZ (y.at_:Int))/\w'.cell? ⟨r0,0,none⟩=some (.pointer q)
def aAK(env:Sc.Env)(w:World)(e:Ending)(w':World):Prop:= ∃q,e=.returned (.pointer q)/\kJ w' (fun _=>True) env q/\Below w.heap.size w w'
theorem XQ{Fe:Nat->Prop}{env:Sc.Env}{p:Option Addr}(he:kJ w Fe env p){c:Nat}(hr:OP w F A ws)(hl:ws.length<=1000000000):
  Calls aBS 212 #[.pointer p,.slice A ws.length c] w (aAK (Sc.dS ws env) w):=by
 obtain⟨vs,hrow,hws⟩:=hr;have hlv:=hws.len;refine(callsIn_wide (n:=9)).1 ?_;refine callsIn_of_wp_marks func212 rfl trivial ?_ rfl;simp only[ntmps212,List.size_toArray,aCC,aFS,Nat.reduceAdd,Nat.reduceSub,Array.replicate_succ,Array.replicate_zero,List.push_toArray,List.append_toArray,aCU,aCT];have Hlv:=aB hlv;clear hlv
 gi_wp2_with (refine⟨trivial,?_⟩;gi_at_call 237;refine(callsIn_wide.2 (Me _ _ _ _)).mono ?_;rintro e w' ⟨rfl,rfl⟩)
 have hB0:Below w.heap.size w ((w.alloc (.cells #[.pointer p] 329)).alloc (.cells #[.slice A ws.length c] 232)):=((aBU _ w).alloc (aBT _) _).alloc (by simp) _;have hbx:aV ((w.alloc (.cells #[.pointer p] 329)).alloc (.cells #[.slice A ws.length c] 232)) w.heap.size 329 #[.pointer p]:=(aV.new w _ _).alloc _;have hbs:=aV.new (w.alloc (.cells #[.pointer p] 329)) 232 #[.slice A ws.length c];rw[World.size_alloc] at hbs;refine wpIn_rangeFunc_ownF rfl (by omega) (gf:=247) (lb:=#[.pointer (some ⟨w.heap.size+1,0,none⟩)]) rfl trivial (enters_of func247 (by kernel_rfl) rfl)
  (Bc 8 (by omega) (w.heap.size+1) w.heap.size A c vs (by rw[Hlv.o];exact hl) _ hbs.lt hB0.size (by rw[Hlv.o];exact hbs.cell 0) (fun j hj=>by obtain⟨br,o,e,hF,hbl,hcc⟩:=hrow (by omega);refine⟨br,o,e,hbl,(hB0.cell (p:=⟨br,o+j,none⟩) hbl).trans (hcc j _ ?_)⟩;unfold zL;rw[aBY hj];rfl)) xx.t (fun W l o o' hle hh hnc hnw=>⟨belowK_b (w:=(w.alloc (.cells #[.pointer p] 329)).alloc (.cells #[.slice A ws.length c] 232)) hB0.size W l o o' hle hh hnc hnw,World.putObj_heap_other (by have:=hbs.lt;omega)⟩) (aBU _ _) (fun _=>rfl)
  (fun pre W=>InI w.heap.size ws env pre W/\Below w.heap.size w W)
  (fun _ _ _=>False)
  (OwnFrom.and (Own.from (bz _ _ _) _) (ownFrom_below (aBT _) hB0.size))
  (fun _ _ _ _ _ hs _ _=>hs)
  ⟨⟨p,hbx,(he.below hB0).aBi,by simp⟩,hB0⟩
  (fun j=>{tmps:=#[.pointer p,.slice A ws.length c,.pointer (some ⟨w.heap.size,0,none⟩),undef,.pointer none,undef,zL vs j,.slice A ws.length c,.func (.func 247) #[] #[.pointer (some ⟨w.heap.size+1,0,none⟩)],.int .i64 (j:Int),zL vs j,undef,undef,undef,undef,undef,undef,undef,undef,undef,undef,undef,undef,undef,undef],defers:=[]}) ?assign ?body ?done ?stop
 case assign=>
  intro l x W K hK
  gi_wp2
  exact hK
 case body=>
  rintro l pre j W ⟨⟨q,hbx,hE,hsz⟩,hB⟩ _;have hx:=(hws.val j).below hB;have HX:aC (VI ws env (pre++[j])=GQ (tN ws j) (VI ws env pre)):=Kz ws env pre j;generalize tN ws j=x at *;generalize zL vs j=v at *;generalize hen:VI ws env pre=e1 at *;have b0:=hbx.cell 0;have f0:=hbx.frozen 0;simp at b0;cases x with
  |none=>
   obtain rfl:v=.pointer none:=hx
   gi_wp2
   exact⟨KeepsOthers.refl _,⟨aBU _ _,rfl⟩,⟨q,hbx,by rw[HX.o];exact hE,hsz⟩,hB⟩
  |some y=>
   obtain⟨g,rfl,hF,hg⟩:=hx;have g0:=hg.cell 0;have g1:=hg.cell 1;simp at g0 g1
   gi_upto_region 4 with fail
   refine UB 11 (InS w.heap.size g y q) (by rintro⟨a,w,h⟩;exact h) (by kernel_rfl) (by kernel_rfl) ?_;have hS0:InS w.heap.size g y q W.drew:=⟨g0,g1,b0⟩;have hk0:KeepsOthers W W.drew:=KeepsOthers.drew W;have hb0:Below w.heap.size W W.drew:=(aBU _ _).drew;have hs0:W.drew.heap[w.heap.size+1]? =W.heap[w.heap.size+1]? :=rfl;have hsz:w.heap.size+2<=W.drew.heap.size:=hsz;have hbx:=hbx.drew;have hE:=kJ.below hE ((aBU _ _).drew);have hB:=hB.drew;have hg:=hg.drew;clear b0 f0 g0 g1;generalize W.drew=W2 at *
   iterate 10 refine aO 0 hS0 ?_
   clear hS0;obtain⟨hd3,hn⟩:=uS W2 359 #[.string ⟨y.text.toArray⟩,.int .i64 (y.at_:Int),.pointer q];have pJ:=hbx.below hd3 hbx.lt;have hg3:=hg.below hd3 hg.lt;have PD:=kJ.below hE hd3;have hk3:=hk0.trans (KeepsOthers.alloc W2 (.cells #[.string ⟨y.text.toArray⟩,.int .i64 (y.at_:Int),.pointer q] 359));have hB3:=hB.trans (hd3.mono hB.size);have hb3:=hb0.trans (hd3.mono hB.size);have hs3:=(hd3.block (w.heap.size+1) (by omega)).trans hs0;have ZH:=aBV hsz hd3.size;have hS3:InS w.heap.size g y q (W2.alloc (.cells #[.string ⟨y.text.toArray⟩,.int .i64 (y.at_:Int),.pointer q] 359)):=⟨by have:=hg3.cell 0;simpa using this,by have:=hg3.cell 1;simpa using this,by have:=pJ.cell 0;simpa using this⟩;have HS3:=aB hS3;clear hbx hE hB hg hk0 hb0 hs0 hsz hd3 hg3 hS3;refine aA 10 fun C hC=> ?_
   go_simp;refine hC.out _ _ (fun _=>HS3.o) ?_;clear hC C;obtain⟨ne,hne⟩: ∃ne,ne=W2.heap.size:=⟨_,rfl⟩;rw[<-hne] at hn⊢;clear hne;generalize W2.alloc _=W3 at *;have b0:=pJ.cell 0;have f0:=pJ.frozen 0;simp at b0;refine aA 11 fun C hC=> ?_
   go_simp;refine hC.out _ _ (fun h=>absurd rfl h) ?_;clear hC C;refine WX (by kernel_rfl) ?_ _;have M_:=hn.far (p:=⟨w.heap.size,0,none⟩) (fun e=>by have e:ne=w.heap.size:=e;subst e;unfold aV at hn pJ;rw[hn] at pJ;injection pJ with h1;injection h1 with _ h1 _;exact absurd h1 (by decide)) (.pointer (some ⟨ne,0,none⟩));have hbx4:=pJ.bD 0 (.pointer (some ⟨ne,0,none⟩));simp at hbx4;have hk4:=fF W3 w.heap.size 0 (.pointer (some ⟨ne,0,none⟩));have Ub:kJ (W3.setCell ⟨w.heap.size,0,none⟩ (.pointer (some ⟨ne,0,none⟩))) (fun _=>True) e1 q:=kJ.aG (T:=[329]) (aD.grown hk4 fun g' cs t fr e hk=>by injection e with e;subst e;unfold aV at pJ;rw[hk] at pJ;injection pJ with h1;injection h1 with _ h1 _;simp[h1]) (by decide) PD
   gi_wp2
   refine⟨hk3.trans (KeepsOthers.setCell _ _ _),⟨hb3.setCell (p:=⟨w.heap.size,0,none⟩) (aBT _) _,(Below.heap_setCell W3 ⟨w.heap.size,0,none⟩ _ (w.heap.size+1) (by simp)).trans hs3⟩,⟨some ⟨ne,0,none⟩,hbx4,?_,by have:=hk4.size;omega⟩,hB3.setCell (p:=⟨w.heap.size,0,none⟩) (aBT _) _⟩;rw[HX.o];exact⟨ne,q,rfl,trivial,M_,Ub⟩
 case done=>
  rintro D ys W hD rfl ⟨⟨q,hbx,hE,hsz⟩,hB⟩ hK;have b0:=hbx.cell 0;simp at b0
  gi_wp2
  refine⟨by simp,.inl ⟨_,_,rfl,run_takeDeferred hK,?_⟩⟩;refine⟨_,results_tmp rfl _ _ _,q,rfl,?_,hB.trans (belowK_b (w:=w) (aBT _) W D _ _ (by simp at hD;omega) hK rfl rfl)⟩;rw[<-La,<-Hlv.o];exact hE.kept (grownBy_putObj' W D _) fun r e=>by cases e;exact⟨_,hK,rfl⟩
 case stop=>rintro D c pre W _ _ h _;exact h.elim
theorem Sc.MZ (l:List Sc.It)(x:Sc.It)(n:Bs):Sc.bJ (l++[x]) n=match Sc.bJ l n with
  |some k=>some k
  |none=>if Sc.named n x then some l.length else none:=by
 unfold Sc.bJ;rw[List.findIdx?_append];cases h:l.findIdx? (Sc.named n)with
 |some k=>rfl
 |none=>
  by_cases hx:Sc.named n x=true
  ·simp[List.findIdx?_cons,hx]
  ·simp[List.findIdx?_cons,hx]
theorem Sc.KA {l:List Sc.It}(h:k<l.length):Sc.dW (l++[x]) k=Sc.dW l k:=by
 unfold Sc.dW;rw[aDM h,List.take_append_of_le_length (by omega)]
theorem Sc.Ko (l:List Sc.It)(n:Bs):(Sc.bJ l n).isSome=l.any (Sc.named n):=by
 unfold Sc.bJ;rw[List.findIdx?_isSome]
theorem Sc.KC (l:List Sc.It)(x:Sc.It):Sc.dW (l++[x]) l.length=match x.name with
  |some w=>(Sc.bJ l w.text).isSome
  |none=>false:=by
 unfold Sc.dW;have h:(l++[x])[l.length]? =some x:=by simp
 have h2:(l++[x]).take l.length=l:=by simp
 rw[h,h2];cases hx:x.name with
 |none=>simp[hx]
 |some w=>simp[hx,Sc.Ko]
theorem RS{n:Bs}:WideAt.IsKeyLit (.string n):=by unfold WideAt.IsKeyLit;trivial
theorem tL.nil:tL (.map []) [] []:=fun n=>⟨rfl,fun k g h=>by simp[Sc.bJ] at h⟩
theorem tL.skip {D:DataW Unit}{l:List Sc.It}{G:List Nat}(h:tL D l G)(hG:G.length=l.length)(hx: ∀n,Sc.named n x=true->(Sc.bJ l n).isSome=true):tL D (l++[x]) (G++[g]):=fun n=>by
 have h1:=h n;rw[Sc.MZ];cases hf:Sc.bJ l n with
 |some k=>rw[hf] at h1;refine⟨h1.1,fun k' g' e hg=> ?_⟩;injection e with e;subst e;obtain⟨y,hy,_⟩:=Sc.uO hf;have hk:=(aCD.1 hy).1;rw[aDM (by omega)] at hg;exact h1.2 k g' rfl hg
 |none=>
  rw[hf] at h1
  by_cases hn:Sc.named n x=true
  ·have:=hx n hn;rw[hf] at this;cases this
  ·simp only[hn];exact⟨h1.1,fun k g e=>by cases e⟩
theorem tL.put {D:DataW Unit}{l:List Sc.It}{G:List Nat}(h:tL D l G)(hD:IsMap D)(hG:G.length=l.length){g:Nat}{w:Sc.Wd}(hw:x.name=some w)(hf:Sc.bJ l w.text=none):
  tL (D.put (.string w.text) (.lit (.int .i64 (g:Int)))) (l++[x]) (G++[g]):=fun n=>by
 have h1:=h n;rw[Sc.MZ]
 by_cases e:n=w.text
 ·subst e;rw[hf];have hn:Sc.named w.text x=true:=(by unfold Sc.named;rw[hw];simp);simp only[hn,if_true];refine⟨has_put_same hD RS _,fun k g' e hg=> ?_⟩;injection e with e;subst e;rw[<-hG] at hg;simp at hg;subst hg;exact atKey_put_same hD RS _ _
 ·have hn: ¬Sc.named n x=true:=(by unfold Sc.named;rw[hw];simp;exact fun h=>e h.symm);have hne:Lit.string n≠Lit.string w.text:=fun h=>e (by injection h)
  rw[has_put_other hne];cases hf':Sc.bJ l n with
  |some k=>rw[hf'] at h1;refine⟨h1.1,fun k' g' e' hg=> ?_⟩;injection e' with e';subst e';obtain⟨y,hy,_⟩:=Sc.uO hf';have hk:=(aCD.1 hy).1;rw[aDM (by omega)] at hg;rw[atKey_put_other hne];exact h1.2 k g' rfl hg
  |none=>rw[hf'] at h1;simp only[hn];exact⟨h1.1,fun k g e=>by cases e⟩
def bQ(T:List TypeId)(w w':World):Prop:= ∀k,k<w.heap.size->(∀cs t fr,w.heap[k]? =some (.cells cs t fr)->t∉T)->w'.heap[k]? =w.heap[k]?
section
variable{T T':List TypeId}{w w1 w':World}
theorem bQ.refl (T:List TypeId)(w:World):bQ T w w:=fun _ _ _=>rfl
theorem bQ.trans (h:bQ T w w1)(hs:w.heap.size<=w1.heap.size)(h':bQ T w1 w'):bQ T w w':=fun k hk ht=>by
 have h1:=h k hk ht;exact(h' k (aCF hk hs) fun cs t fr e=>ht cs t fr (h1▸e)).trans h1
theorem bQ.below (hd:Below w.heap.size w w'):bQ T w w':=fun k hk _=>hd.block k hk
theorem bQ.grown {row:Option Nat}(hg:w.grownBy w' row)(hr: ∀g,row=some g->∃cs t fr,w.heap[g]? =some (.cells cs t fr)/\t∈T):bQ T w w':=fun k hk ht=>
 hg.block k hk fun e=>by obtain⟨cs,t,fr,h1,h2⟩:=hr k e.symm;exact ht cs t fr h1 h2
theorem bQ.toC (h:bQ T w w'):aD T w w':=fun k cs t fr hk ht=>(h k (qX hk) fun cs' t' fr' e=>by
 rw[hk] at e;injection e with e;injection e with _ e _;exact e▸ht).trans hk
end
def xU(w:World)(t:TypeId)(F:Nat->Prop)(A:Option Addr)(vs:List Value):Prop:=fP w F A vs/\∀br o,A=some ⟨br,o,none⟩->0<vs.length->∃cs fr,w.heap[br]? =some (.cells cs t fr)
theorem xU.aG {t:TypeId}(h:xU w t F A vs)(hs:w.heap.size<=w'.heap.size)(hk:aD T w w')(ht:t∉T):xU w' t F A vs:=by
 have h0:=h;obtain⟨h1,h2⟩:=h;refine⟨fun hn=> ?_,fun br o e hn=> ?_⟩
 ·obtain⟨b,o,e,hF,hl,hc⟩:=h1 hn;obtain⟨cs,fr,hty⟩:=h2 b o e hn;exact⟨b,o,e,hF,by omega,fun j u hu=>(aCM (a:=⟨b,o+j,none⟩) ((hk b cs t fr hty ht).trans hty.symm)).trans (hc j u hu)⟩
 ·obtain⟨cs,fr,hty⟩:=h2 br o e hn;exact⟨cs,fr,hk br cs t fr hty ht⟩
theorem OP.aG (h:OP w F A ws)(hty: ∀br o,A=some ⟨br,o,none⟩->0<ws.length->∃cs fr,w.heap[br]? =some (.cells cs 231 fr))(hs:w.heap.size<=w'.heap.size)(hk:aD T w w')(ht:237∉T/\231∉T):
  OP w' F A ws/\∀br o,A=some ⟨br,o,none⟩->0<ws.length->∃cs fr,w'.heap[br]? =some (.cells cs 231 fr):=by
 obtain⟨vs,hr,hw⟩:=h;have hl:=hw.len;have h1:xU w 231 F A vs:=⟨hr,fun br o e hn=>hty br o e (by omega)⟩;have h2:=h1.aG hs hk ht.2;exact⟨⟨vs,h2.1,jX.aG hw hk ht.1⟩,fun br o e hn=>h2.2 br o e (by omega)⟩
theorem WA.aG (h:WA w P F x tw g)(hd:Below B w w')(hP: ∀b,P b->b<B)(hs:w.heap.size<=w'.heap.size)(hk:aD T w w')(ht:234∉T/\237∉T/\231∉T):WA w' P F x tw g:=by
 obtain⟨h0,hkd,pb,nv,A,c,ev,mv,me,av,hB,hp,hn,hc,hr,hty,he,h1,h2,h3⟩:=h;have kp: ∀b,P b->b<w.heap.size->w'.heap[b]? =w.heap[b]? /\P b:=fun b hb _=>⟨hd.block b (hP b hb),hb⟩
 obtain⟨r1,r2⟩:=hr.aG hty hs hk ht.2;exact⟨h0,hkd,pb,nv,A,c,ev,mv,me,av,hB.aG hk ht.1,dE.keep hs kp _ _ hp,hn.aG hk ht.2.1,hc,r1,r2,fun e=>dE.keep hs kp _ _ (he e),h1.aG hk ht.2.1,h2.aG hk ht.2.1,h3.aG hk ht.2.1⟩
theorem WA.below (h:WA w P F x tw g)(hd:Below w.heap.size w w'):WA w' P F x tw g:=by
 obtain⟨h0,hkd,pb,nv,A,c,ev,mv,me,av,hB,hp,hn,hc,hr,hty,he,h1,h2,h3⟩:=h;obtain⟨r1,r2⟩:=hr.aG hty hd.size (aD.below (T:=[]) hd) (by simp);exact⟨h0,hkd,pb,nv,A,c,ev,mv,me,av,hB.below hd hB.lt,dE.below hp hd,hn.below hd,hc,r1,r2,fun e=>dE.below (he e) hd,h1.below hd,h2.below hd,h3.below hd⟩
theorem WA.mono {F':Nat->Prop}(h:WA w P F x tw g)(hF: ∀b,F b->F' b):WA w P F' x tw g:=by
 obtain⟨h0,hkd,pb,nv,A,c,ev,mv,me,av,hB,hp,hn,hc,hr,hty,he,h1,h2,h3⟩:=h;have k2: ∀b,F b->b<w.heap.size->w.heap[b]? =w.heap[b]? /\F' b:=fun b hb _=>⟨rfl,hF b hb⟩
 exact⟨hF g h0,hkd,pb,nv,A,c,ev,mv,me,av,hB,hp,hn.keep k2,hc,hr.keep (aBT _) k2,hty,he,h1.keep k2,h2.keep k2,h3.keep k2⟩
theorem WA.twice (h:WA w P F x false g)(tw:Bool)(hP: ∀b,P b->b<n)(hg:n<=g):WA (w.setCell ⟨g,4,none⟩ (.bool tw)) P F x tw g:=by
 obtain⟨h0,hkd,pb,nv,A,c,ev,mv,me,av,hB,hp,hn,hc,hr,hty,he,h1,h2,h3⟩:=h;have hK:aD [234] w (w.setCell ⟨g,4,none⟩ (.bool tw)):=aD.set hB (by simp);have hs:=(fF w g 4 (.bool tw)).size;have kp: ∀b,P b->b<w.heap.size->(w.setCell ⟨g,4,none⟩ (.bool tw)).heap[b]? =w.heap[b]? /\P b:=fun b hb hl=>⟨(fF w g 4 (.bool tw)).block b hl fun e=>by injection e with e;have:=hP b hb;omega,hb⟩
 obtain⟨r1,r2⟩:=hr.aG hty hs hK (by decide);have hB2:=hB.bD 4 (.bool tw);unfold kW at hB2;simp at hB2;exact⟨h0,hkd,pb,nv,A,c,ev,mv,me,av,hB2,dE.keep hs kp _ _ hp,hn.aG hK (by decide),hc,r1,r2,fun e=>dE.keep hs kp _ _ (he e),h1.aG hK (by decide),h2.aG hK (by decide),h3.aG hK (by decide)⟩
theorem U2{t:TypeId}{size:Nat}{v:Value}{xs:List Value}{k:TypeId}{R:Value->Option (DataW Unit×List MemPlace)}{N:Nat}{D:DataW Unit}(h:w.ownsRow B t size v n xs)(hm:w.ownsMap aBS k R m N D)(hg:w.grownBy w' (some m)):w'.ownsRow B t size v n xs:=
 aM h fun b hb=>by obtain⟨cs,fr,hty⟩:=eU h b hb;exact hg.block b (h.lt b hb).2 fun e=>nV hm hty (by injection e)
theorem bQ.map {k:TypeId}{R:Value->Option (DataW Unit×List MemPlace)}{N:Nat}{D:DataW Unit}(hm:w.ownsMap aBS k R m N D)(hg:w.grownBy w' (some m)):aD [] w w':=
 aD.grown hg fun g cs t fr e hk=>by injection e with e;exact absurd e.symm (nV hm hk)
structure JH(w:World)(B:Nat)(P:Nat->Prop)(l:List Sc.It)(G Gr:List Nat)(m:Nat)(A:Option Addr)(c:Nat):Prop where
 gl:G.length=l.length
 nd:G.Nodup
 its: ∀(k:Nat) (x:Sc.It) (g:Nat),l[k]? =some x->G[k]? =some g->WA w P (fun b=>B<=b) x (Sc.dW l k) g
 row:w.ownsRow B 229 1 (.slice A Gr.length c) Gr.length (Gr.map bO)
 map: ∃D,w.ownsMap aBS 9 kN m l.length D/\tL D l G
 mB:B<=m
section
variable{w w':World}{B:Nat}{P:Nat->Prop}{l:List Sc.It}{G Gr:List Nat}{m:Nat}{A:Option Addr}{c:Nat}
theorem JH.lt (h:JH w B P l G Gr m A c)(hg:g∈G):g<w.heap.size:=by
 obtain⟨k,hk,e⟩:=List.getElem_of_mem hg;obtain⟨_,_,pb,nv,A,c,ev,mv,me,av,hB,_⟩:=h.its k (l[k]'(by rw[<-h.gl];exact hk)) g (aBY _) (by rw[<-e];exact aBY _);exact hB.lt
theorem JH.below (h:JH w B P l G Gr m A c)(hd:Below w.heap.size w w'):JH w' B P l G Gr m A c:=by
 obtain⟨D,h1,h2⟩:=h.map;exact⟨h.gl,h.nd,fun k x g hx hg=>(h.its k x g hx hg).below hd,aM h.row fun b hb=>hd.block b (h.row.lt b hb).2,⟨D,dX h1 (hd.block m h1.lt),h2⟩,h.mB⟩
theorem JH.skip (h:JH w B P l G Gr m A c)(hx:WA w P (fun b=>B<=b) x (Sc.dW (l++[x]) l.length) g)(hnew:g∉G)(hn: ∀n,Sc.named n x=true->(Sc.bJ l n).isSome=true):JH w B P (l++[x]) (G++[g]) Gr m A c:=by
 obtain⟨D,h1,h2⟩:=h.map;refine⟨by simp[h.gl],aEC.2 ⟨h.nd,by simp,fun a ha b hb=> ?_⟩,fun k y g' hy hg=> ?_,h.row,⟨D,h1.mono (by simp),h2.skip h.gl hn⟩,h.mB⟩
 ·rw[aCH] at hb;subst hb;exact fun e=>hnew (e▸ha)
 ·rcases aCN k l.length with hk|hk
  ·rw[aDM hk] at hy;rw[aDM (by rw[h.gl];exact hk)] at hg;rw[Sc.KA hk];exact h.its k y g' hy hg
  ·have hk':=(aCD.1 hy).1;simp at hk';obtain rfl:k=l.length:=(by omega);simp at hy;rw[<-h.gl] at hg;simp at hg;subst hy hg;exact hx
theorem JH.put (h:JH w B P l G Gr m A c)(hP: ∀b,P b->b<B){y:Sc.Wd}(hx:WA w P (fun b=>B<=b) x (Sc.dW (l++[x]) l.length) g)(hnew:g∉G)(hw:x.name=some y)(hf:Sc.bJ l y.text=none)
  (hg:w.grownBy w' (some m)) {D:DataW Unit} (hm:w.ownsMap aBS 9 kN m l.length D) (hD:tL D l G) (hm':w'.ownsMap aBS 9 kN m (l.length+1) (D.put (.string y.text) (.lit (.int .i64 (g:Int))))):JH w' B P (l++[x]) (G++[g]) Gr m A c:=by
 have hK:=bQ.map hm hg;have hd:Below B w w':=⟨hg.os,hg.tape,hg.output,hg.size,fun k hk=>hg.block k (aCF hk (aBV h.mB (Nat.le_of_lt hm.lt))) fun e=>by injection e with e;have:=h.mB;omega⟩;refine⟨by simp[h.gl],aEC.2 ⟨h.nd,by simp,fun a ha b hb=> ?_⟩,fun k z g' hy hg'=> ?_,U2 h.row hm hg,⟨_,by rw[List.length_append];exact hm',hD.put hm.isMap h.gl hw hf⟩,h.mB⟩
 ·rw[aCH] at hb;subst hb;exact fun e=>hnew (e▸ha)
 ·rcases aCN k l.length with hk|hk
  ·rw[aDM hk] at hy;rw[aDM (by rw[h.gl];exact hk)] at hg';rw[Sc.KA hk];exact(h.its k z g' hy hg').aG hd hP hg.size hK (by simp)
  ·have hk':=(aCD.1 hy).1;simp at hk';obtain rfl:k=l.length:=(by omega);simp at hy;rw[<-h.gl] at hg';simp at hg';subst hy hg';exact hx.aG hd hP hg.size hK (by simp)
theorem JH.push (h:JH w B P l G Gr m A c)(hP: ∀b,P b->b<B){A':Option Addr}{c':Nat}(hown:w'.ownsRow B 229 1 (.slice A' G.length c') G.length (G.map bO))(hd:Below B w w')(hg:w.grownBy w' (Value.slice A Gr.length c).ownBlock):JH w' B P l G G m A' c':=by
 obtain⟨D,h1,h2⟩:=h.map;have hK:aD [229] w w':=aD.grown hg fun g cs t fr e hk=>by obtain⟨cs',fr',h3⟩:=eU h.row g e;rw[hk] at h3;injection h3 with h3;injection h3 with _ h3 _;simp[h3]
 refine⟨h.gl,h.nd,fun k x g hx hg'=>(h.its k x g hx hg').aG hd hP hg.size hK (by decide),hown,⟨D,h1.kept hg fun e=> ?_,h2⟩,h.mB⟩;obtain⟨cs,fr,h3⟩:=eU h.row m e.symm;exact nV h1 h3 rfl
end
theorem Ea: ∀{l:List Tr.Kd} {vs:List Value},nE w F l vs->∀u∈vs,u.oneCell'=true
 | [],vs,h,u,hu=>by obtain rfl:vs=[]:=h;cases hu
 |k::l,vs,h,u,hu=>by
  obtain⟨q,vs',rfl,_,hl⟩:=h;simp only[List.mem_cons] at hu;rcases hu with rfl|rfl|rfl|rfl|hu
  ·rfl
  ·rfl
  ·rfl
  ·rfl
  ·exact Ea hl u hu
theorem nE.below {l:List Tr.Kd}(h:nE w F l vs)(hd:Below w.heap.size w w'):nE w' F l vs:=nE.keep hd.size (fun b hF hl=>⟨hd.block b hl,hF⟩) _ _ h
def xy(ks:List Tr.Kd)(vs:List Value)(w:World)(F:Nat->Prop)(e:Ending)(w':World):Prop:=
 ∃A c,e=.returned (.slice A ks.length c)/\w'.ownsRow w.heap.size 116 4 (.slice A ks.length c) ks.length vs/\nE w' F ks vs/\Below w.heap.size w w'
theorem YV{ks:List Tr.Kd}{c:Nat}(hr:fP w F A vs)(hk:nE w F ks vs)(hl:ks.length<=1000000000):
  Calls aBS 89 #[.slice A ks.length c] w (xy ks vs w F):=by
 obtain⟨i0,ji,iW,jz1,iV⟩:=info_parts Ec;have hlen:=hk.len;cases A with
 |none=>
  have h1:ks=[]:=by
   rcases Nat.eq_zero_or_pos vs.length with h0|h0
   ·exact List.eq_nil_of_length_eq_zero (by omega)
   ·obtain⟨b,o,e,_⟩:=hr h0;cases e
  subst h1;obtain rfl:vs=[]:=hk;have hnl:=fun w:World=>aGN (P:=aBS) w 112 116 none 0 c 0 0 underlying112
  clear hr hlen hl;simp only[aFS] at *
  go_enter func89,ntmps89
  go_wp2
  go_ret;exact⟨_,_,rfl,World.ownsRow_nil _ _ _ _,rfl,aBU _ _⟩
 |some ad=>
  have h2: ∀j u,vs[j]? =some u->w.cell? (ad.add j)=some u:=fun j u hj=>by
   have hj':=(aCD.1 hj).1;obtain⟨b,o,e,_,_,hc⟩:=hr (by omega);injection e with e;subst e;have:=hc j u hj;unfold Addr.add;split
   ·rename_i h0;subst h0;simpa using this
   ·exact this
  have hO:=World.ownsRow_lit (base:=w.heap.size) (e:=116) (size:=4) w #[] 0 (aBT _) (by unfold maxLen;omega) rfl;have h3: ∀j u,vs[j]? =some u->(w.alloc (.cells #[] 116)).cell? (ad.add j)=some u:=fun j u hu=>(by have h4:=h2 j u hu;have h5:=World.block_lt_of_cell? w _ h4;rw[aCM (Below.heap_alloc w _ _ h5)];exact h4);have H3:=aB h3;have hb:=nR w (.cells #[] 116);have h1:=Ea hk;have Hlen:=aB hlen;have Hl:=aB hl;have Hk:=aB hk;clear h2 h3 hr hlen hl hk;generalize hN:ks.length=N at *;have HN:=aB hN;clear hN;have hnl:=fun w:World=>aGN (P:=aBS) w 112 116 (some ad) N c 0 0 underlying112
  go_enter func89,ntmps89
  go_wp2_with (at_builtin;refine wpList_append_own _ rfl _ _ 112 rfl w.heap.size 116 i0 _ 4 32 underlying112 ji iW jz1 iV rfl (by omega) _ 0 _ rfl hO ad N c vs rfl Hlen.o H3.o h1 (by have:=Hl.o;unfold maxLen;omega) (by have:=Hl.o;omega) (by simp) ?_;intro v' w4 qG hgrow _);go_ret;have hown5:w4.ownsRow w.heap.size 116 4 v' N vs:=(by simpa using qG);obtain⟨A',c',rfl,_⟩:=gQ hown5;have hd:=hb.grown hgrow hb.size fun g hg=>(hO.lt g hg).1
  obtain rfl:=HN.o;exact⟨A',c',rfl,hown5,Hk.o.below hd,hd⟩
theorem Jm{gt d:Nat}{T:List Tk}{ks:List Tr.Kd}{ts:List Tr.PT}(h:vX w F gt d A c T ks ts)(hl:ks.length<=1000000000):
  Calls aBS 45 #[pZZ gt] w (fun e w'=> ∃vs,xy ks vs w F e w'):=by
 obtain⟨Av,cv,At,ct,vs,us,hB,_,_,hr,hk,_,_⟩:=h.ex;have hc:=YV (c:=cv) hr hk hl;have b2:=hB.cell 2;simp at b2;clear hr hk hl hB h;generalize ks.length=N at *
 go_enter func45,ntmps45
 go_wp2_with fail;refine hc.mono ?_;clear hc;rintro e w1 ⟨A',c',rfl,hown,hk,hd⟩;go_wp2_with fail;go_ret;exact⟨vs,A',c',rfl,hown,hk,hd⟩
theorem jr{a:Nat}(h:p∈l\/∃k2 a2 m,k=11/\.branch k2 a2 m∈l/\p∈m):aFC p<aFC (Tr.PT.branch k a l):=by
 rcases h with h|⟨k2,a2,m,_,h1,h2⟩
 ·have:=aGV h;simp;omega
 ·have h3:=aGV h1;have h4:=aGV h2;simp at h3⊢;omega
theorem QH{k2 a2:Nat}{m:List Tr.PT}(hs:Sc.OQ l)(h1: .branch k2 a2 m∈l)(h2:p∈m):Sc.uE p:=by
 have:=(Sc.yJ l).1 hs _ h1;unfold Sc.uE at this;exact(Sc.yJ m).1 this.2 _ h2
theorem Ji{b k2 a2:Nat}{m:List Tr.PT}(hs:CP b l)(h1: .branch k2 a2 m∈l)(h2:p∈m):fH b p:=by
 have:=gG hs _ h1;unfold fH at this;exact gG this.2 _ h2
section
variable{σ:Type}{Fn:Nat}{caps:Array Value}{w0:World}{F:Nat->Prop}{T:List TypeId}{x:Sc.It}{ib:Nat}{Q:Tr.PT->Prop}{G:σ->Prop}{st:Sc.Env->Tr.PT->σ->σ}{I:σ->World->Prop}
theorem JD.kids (V:JD Fn caps w0 F T x ib Q G st I){a:Nat}(hsh:Sc.uE (.branch k a l))(hlo:fH x.base (.branch k a l))(hQ:Q (.branch k a l)): ∀p∈NG k l,Sc.uE p/\Sc.bA p=true/\fH x.base p/\Q p/\aFC p<aFC (Tr.PT.branch k a l):=fun p hp=>by
 unfold Sc.uE at hsh;unfold fH at hlo;obtain⟨h1,h2⟩:=aAk hsh.1 hp;obtain⟨_,q2,q3⟩:=V.sub k a l hQ;refine⟨?_,h1,?_,?_,jr h2⟩
 all_goals rcases h2 with h2|⟨k2,a2,m,h3,h4,h5⟩
 ·exact(Sc.yJ l).1 hsh.2 _ h2
 ·exact QH hsh.2 h4 h5
 ·exact gG hlo.2 _ h2
 ·exact Ji hlo.2 h4 h5
 ·exact q2 p h2 h1
 ·exact(q3 h3 k2 a2 m h4).2 p h5 h1
theorem JW(V:JD Fn caps w0 F T x ib Q G st I)(a:Nat)(l:List Tr.PT)(ih: ∀p,aFC p<aFC (Tr.PT.branch 9 a l)->WalkE Fn caps F T x ib Q G st I p):WalkE Fn caps F T x ib Q G st I (.branch 9 a l):=by
 intro e ep up pv vb s w hsh _ hlo hQ hI hp he hv hG;have IE:=V.kids hsh hlo hQ;unfold Sc.uE at hsh;unfold fH at hlo;obtain⟨hll,hlow⟩:=hlo;obtain⟨y0,y1,r,hs,_,hb1,_⟩:=hsh.1.2.1 rfl;have hy:Sc.mP (Sc.dP (.branch 9 a l)) 1=y1:=by show Sc.mP (Sc.aI l) 1=y1;rw[hs];rfl
 have e1:Sc.zF x e (.branch 9 a l)=Sc.dS (Sc.bE x.base y1) e:=by have:Sc.zF x e (.branch 9 a l)=Sc.dS (Sc.bE x.base (Sc.mP (Sc.dP (.branch 9 a l)) 1)) e:=rfl;rw[this,hy]
 have e2:Sc.uQ x e (.branch 9 a l)=Sc.dS (Sc.bE x.base y1) e:=e1;have hS:=Co (x:=x) (st:=st) (e:=e) (a:=a) (s:=s) hsh.1 hsh.2 (by omega);rw[e1,e2] at hS;rw[hS] at hG⊢;have hcl:=V.call e _ pv ep up vb s w hQ hp he hv hI (DJ V.back _ _ _ _ hG);have hrun:=V.run;have hy1:fH x.base y1:=gG hlow y1 (gN (by rw[hs];simp));have he3:NG 9 l=Sc.bF l:=rfl;rw[he3] at hG IE⊢;have hp0:=hp;obtain⟨g,rfl,_⟩:=hp0;have has:=fun w=>jW ⟨g,0,none⟩ w
 have Hp:=aB hp;have He:=aB he;have Hv:=aB hv;have HI:=aB hI;cases y1 with
 |leaf _ _ _=>cases hb1
 |gap _ _ _=>cases hb1
 |branch k2 a2 m=>
 have Hs:=aB hs;have Hb1:=aB hb1;clear e1 e2 hS hp he hv hI hs hy he3 hb1 hsh hlow;generalize st e (.branch 9 a l) s=s1 at *;generalize hws:Sc.bE x.base (.branch k2 a2 m)=ws at *;generalize hen:Sc.dS ws e=en at *;have Nv:=aB hws;have Hen:=aB hen;have hlen:(Sc.bF l).length<=1000000000:=aBV (Sc.nZ l) hll;clear hws hen;unfold bO
 go_enter func211,ntmps211
 go_wp2_with fail;refine hcl.mono ?_;clear hcl;rintro e' w1 ⟨rfl,hI1,hK1⟩;have hp1:=Hp.o.same (V.same HI.o hI1);have hv1:=Hv.o.aG hK1 V.types.2.1;have he1:=kJ.aG hK1 V.types.1 He.o;have Sn:=hp1;obtain⟨g',eg,hFg,Al,cl,vl,hgB,_⟩:=Sn;injection eg with _ eg;injection eg with eg;injection eg with eg;injection eg with eg;subst eg;have g0:=hgB.cell 0;have v0:=hv1.cell 0;simp at g0 v0;have hex:=BI hp1 hll;clear Hp He Hv hgB;go_wp2_with fail;refine hex.mono ?_;clear hex g0 v0;rintro e' w2 ⟨A,c,vs,rfl,hown,hps,hd2⟩;have hI2:=V.below _ _ _ hI1 hd2;have hK2:=hK1.trans (aD.below hd2);have hp2:=hp1.same (V.same hI1 hI2);have hv2:=hv1.below hd2 hv1.lt;have he2:=he1.below hd2;clear hp1 hv1 he1 hd2 hK1 hI1 HI;generalize hL:Sc.bF l=L at *;have HL:=aB hL;clear hL;have Hlen:=aB hlen;clear hlen;go_wp2_with fail
 go_loopg [36] L.length (fun m u wr=> ∃i:Nat,u=vZZ i/\i<=L.length/\L.length-i<=m/\I (PG x st en en (L.take i) s1) wr/\aD T w2 wr)
 case atStart=>exact⟨0,rfl,aBZ _,aBT _,hI2,aD.refl _ _⟩
 case round=>
  obtain⟨i,rfl,hi,hm,Eo,hKr⟩:=hrel
  by_cases hlt:i<L.length
  ·have GZ:=iZ i;have EB:=jJ i L.length;obtain⟨v,hv',hpv⟩:=hps.at_ hlt;obtain⟨r0,rfl,hc⟩:=pE hown (by omega);obtain⟨ct,fr,hty⟩:=eU hown r0 rfl;have q0:wr.cell? ⟨r0,i,none⟩=some v:=(aCM (w:=w2) (a:=⟨r0,i,none⟩) ((hKr r0 _ _ _ hty V.types.2.2).trans hty.symm)).trans (hc _ _ hv');obtain⟨kd,gv,rfl⟩:=hpv.form;have HT:aC (PG x st en en (L.take (i+1)) s1=iL x st en L[i] (PG x st en en (L.take i) s1)):=(by show _=_;rw[JO x st en en L i hlt,ite_self]);have hGi:=o7 V.back hG i hlt;rw[ite_self] at hGi;obtain⟨k1,k2',k3,k4,k5⟩:=IE _ (List.getElem_mem hlt);have hih:=ih _ k5;have hpr:=hpv.same (V.same hI2 Eo);have Sk:=hp2.same (V.same hI2 Eo);have hvr:=hv2.aG hKr V.types.2.1;have her:=kJ.aG hKr V.types.1 he2;have c1:=uX i (by have:=Hlen.o;omega);have v1:=hvr.cell 1;simp at v1;generalize L[i]=p at *;generalize PG x st en en (L.take i) s1=sj at *;have bZ:=aB hlt;have Hm:=aB hm;clear hv' hc hty hpv hlt hm hi;go_upto_region 7 with fail;refine aL 100 (fun w':World=>w'.cell? ⟨vb,1,none⟩=some (.pointer ep)) ?_;have hd3:Below wr.heap.size wr wr.drew:=(aBU _ _).drew;have Ua:=V.below _ _ _ Eo hd3;have hK3:=hKr.drew;have hp3:=hpr.below hd3;have hpp3:=Sk.below hd3;have hv3:=hvr.drew;have he3:=her.below hd3;have hS0:(fun w':World=>w'.cell? ⟨vb,1,none⟩=some (.pointer ep)) wr.drew:=v1;clear q0 v1 Eo hKr hpr Sk hvr her hd3;generalize wr.drew=w3 at *
   iterate 8 refine aO 0 hS0 ?_
   refine aO 11 hS0 ?_;refine aO 14 hS0 ?_;clear hS0;have ZK:=BS hpp3 hll Hs.o Hb1.o;refine aA 8 fun C hC=> ?_
   go_simp;refine ZK.mono ?_;clear ZK;rintro e3 w4 ⟨g2,rfl,hq4,hd4⟩;have Ep:=V.below _ _ _ Ua hd4;have hK4:=hK3.trans (aD.below hd4);have tH:=hp3.below hd4;have hv4:=hv3.below hd4 hv3.lt;have he4:=he3.below hd4;refine hC.out _ _ (fun _=>by have:=hv4.cell 1;simpa using this) ?_;clear hC C Ua hK3 hp3 hpp3 hv3 he3 hd4;unfold fH at hy1;obtain⟨ics,hib,Jw⟩:=V.base _ _ Ep;have hwo:=KP hq4 hy1.1 (ib:=ib) (b:=x.base) ((hib.cell 1).trans Jw) (uK hy1.2);rw[Nv.o] at hwo;refine aA 9 fun C hC=> ?_
   go_simp;refine hwo.mono ?_;clear hwo hib Jw;rintro e4 w5 ⟨A4,c4,zi,rfl,qG,Rx,hd5⟩;have hI5:=V.below _ _ _ Ep hd5;have sH:=hK4.trans (aD.below hd5);have Ju:=tH.below hd5;have hv5:=hv4.below hd5 hv4.lt;have he5:=he4.below hd5;refine hC.out _ _ (fun _=>by have:=hv5.cell 1;simpa using this) ?_;obtain⟨hcap,hrow,_⟩:=bY qG (fun y=>w4.heap.size<=y) (fun y hy=>hy);have hwl:ws.length<=1000000000:=by
    rw[<-Nv.o];have h1:(Sc.bE x.base (.branch k2 a2 m)).length=(Sc.bT m).length:=by unfold Sc.bE Sc.UK Sc.bT;rw[List.length_map];rfl
    rw[h1];exact aBV (Sc.lK m) hy1.1
   have hin:=XQ he5 (A:=A4) (c:=c4) ⟨zi,hrow,Rx⟩ hwl;rw[Hen.o] at hin;clear hC C Ep hK4 tH hv4 he4 hd5 hq4 qG Rx hrow hcap;refine aA 10 fun C hC=> ?_
   go_simp;refine hin.mono ?_;clear hin hwl;rintro e5 w6 ⟨q,rfl,he6,hd6⟩;have hI6:=V.below _ _ _ hI5 hd6;have BP:=sH.trans (aD.below hd6);have Sm:=Ju.below hd6;have hv6:=hv5.below hd6 hv5.lt;refine hC.out _ _ (fun _=>by have:=hv6.cell 1;simpa using this) ?_;clear hC C hI5 sH Ju hv5 he5 hd6;have hS6:(fun w':World=>w'.cell? ⟨vb,1,none⟩=some (.pointer ep)) w6:=(by have:=hv6.cell 1;simpa using this);refine aO 12 hS6 ?_;clear hS6;obtain⟨hd7,hn⟩:=uS w6 333 #[.iface kd (pZZ gv),.pointer q,pZZ g];have hI7:=V.below _ _ _ hI6 hd7;have JA:=BP.trans (aD.below hd7);have hp7:=Sm.below hd7;have hv7:=hv6.below hd7 hv6.lt;have he7:=he6.below hd7;have HS7:aC ((w6.alloc (.cells #[.iface kd (pZZ gv),.pointer q,pZZ g] 333)).cell? ⟨vb,1,none⟩=some (.pointer ep)):=(by have:=hv7.cell 1;show _=_;simpa using this);clear hI6 BP Sm hv6 he6 hd7;refine aA 13 fun C hC=> ?_
   go_simp;refine hC.out _ _ (fun _=>HS7.o) ?_;clear hC C;clear HS7;obtain⟨ne,hne⟩:=dC w6.heap.size;rw[<-hne] at hn⊢;clear hne;generalize w6.alloc _=w7 at *;have aAa:=hih en q (pZZ g) _ ne sj w7 k1 k2' k3 k4 hI7 hp7 he7 hn hGi;clear hih hI7 hp7 he7 hn hGi k1 k2' k3 k4 k5;unfold bO at aAa;refine aA 15 fun C hC=> ?_
   go_simp;refine aAa.mono ?_;clear aAa;rintro e8 w8 ⟨rfl,Tz,RY⟩;refine hC.out _ _ (fun _=>by have:=(hv7.aG RY V.types.2.1).cell 1;simpa using this) ?_;clear hC C hv7;refine aR ?_;go_wp2_with fail
   go_roundg (L.length-(i+1))
   case rel=>exact⟨i+1,by go_num,by have:=bZ.o;omega,aBT _,by rw[HT.o];exact Tz,JA.trans RY⟩
   case measure=>have:=bZ.o;have:=Hm.o;omega
  ·obtain rfl:i=L.length:=(by omega);rw[List.take_length] at Eo;go_wp2_with fail;refine bodyPost_ret (results_none rfl _ _ _) rfl ?_;exact⟨rfl,by rw[HL.o];exact Eo,hK2.trans hKr⟩
end
end Go.Proofs.YtcjjfeephaddcaaGreatDoor
