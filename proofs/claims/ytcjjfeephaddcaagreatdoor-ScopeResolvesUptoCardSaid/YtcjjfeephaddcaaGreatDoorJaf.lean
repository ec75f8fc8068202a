import Derived.Test.YtcjjfeephaddcaaGreatDoorJae
set_option linter.all false
open Go.IntKind renaming i64->aCQ
open Go.IntWalk renaming i64_in->aCV
open Go.Proofs.Tryz renaming prog->aBS
open Go.Region renaming ready->aCX,wanted->aEA,binds->aFH,noSelect->aGM
open Go.RowKit.Below renaming refl->aBU,heap_setCell->aCG
open Go.Value renaming slice->aBX,oneCell'->aCA,ownBlock->aCZ
open Go.World renaming setCell->aCI,news_of_block->aCK
open Nat renaming le_refl->aBT,zero_le->aBZ,lt_irrefl->aDR
open Option renaming some->aDB
set_option maxHeartbeats 64000000
set_option maxRecDepth 100000
open Go.Proofs.Tryz
namespace Go.Proofs.YtcjjfeephaddcaaGreatDoor
open Go.RowKit
variable{w:World}{F K:Nat->Prop}{b fuel g gt h i n:Nat}{oi:Oper}{v:Value}{listed:Array Bool}{a:Act}{p:Tr.PT}{pts:List Tr.PT}
structure jB(w:World)(K:Nat->Prop)(g gt:Nat)(s:Bs)(T:List Tk)(b n i:Nat):Prop where
 rs:Nq w K g gt s T b n i
 dL:In K w
 hi:i<=T.length
 hb:b<=Tr.dD s T i
structure iN(s:Bs)(T:List Tk):Prop where
 good:Tr.Good s T
 hT:T.length<=4194304
 hs:s.length<=4194304
section
variable{w w':World}{K:Nat->Prop}{g gt:Nat}{s:Bs}{T:List Tk}{b n i:Nat}
theorem jB.below (h:jB w K g gt s T b n i)(hb:Below w.heap.size w w'):jB w' K g gt s T b n i:=⟨h.rs.below hb h.dL,h.dL.after hb.size,h.hi,h.hb⟩
theorem jB.drewN (h:jB w K g gt s T b n i)(m:Nat):jB (w.drewN m) K g gt s T b n i:=h.below (below_drewN (aBU _ _) m)
end
theorem Eb{s:Bs}{T:List Tk}(X:iN s T)(R:jB w K g gt s T b n i)(A:Option Addr)(c:Nat)(l:List Bs)(hA:Rd w w.heap.size 1 A l.length (mR l))(hl:l.length<=1000):
  Calls aBS 150 #[pZZ g,.slice A l.length c] w fun e w'=>e=.returned (.bool (Tr.aW s T l i))/\Below w.heap.size w w':=by
 have h1:=pF R.rs R.hi (by have:=X.hT;omega);have hnl:=Tr.JJ T i R.hi;have hT:=X.hT;have h2:=zW (Tr.aH T i) R.rs X.good (by have:=X.hs;omega) (by omega);have HR:aC (Tr.aW s T l i=((Tr.bR T (Tr.aH T i)==4||Tr.bR T (Tr.aH T i)==7)&&l.contains (Tr.gX s T (Tr.aH T i)))):=rfl;generalize Tr.aW s T l i=r at *;generalize Tr.bR T (Tr.aH T i)=kd at *;generalize Tr.gX s T (Tr.aH T i)=tx at *;generalize Tr.aH T i=nx at *;clear hnl hT R X
 go_enter func150,ntmps150
 go_wp2_with fail;refine h1.mono ?_;clear h1;rintro e w1 ⟨rfl,rfl⟩;go_wp2_with fail;refine h2.mono ?_;clear h2;rintro e w2 ⟨rfl,hb⟩;have hc:=NI A c l tx w2 ((hA.below hb).more hb.size) (by omega);generalize l.contains tx=cb at *
 by_cases k4:kd=4
 ·subst k4;go_wp2_with fail;refine hc.mono ?_;clear hc;rintro e w3 ⟨rfl,rfl⟩;go_wp2_with fail;go_ret;exact⟨by rw[HR.o];rfl,hb⟩
 ·have e4:((kd:Int)==4)=false:=(by simp;omega);have f4:(kd==4)=false:=(by simpa using k4);rw[f4,Bool.false_or] at HR
  by_cases k7:kd=7
  ·subst k7;clear k4 f4;go_wp2_with fail;refine hc.mono ?_;clear hc;rintro e w3 ⟨rfl,rfl⟩;go_wp2_with fail;go_ret;exact⟨by rw[HR.o];rfl,hb⟩
  ·have e7:((kd:Int)==7)=false:=(by simp;omega);have f7:(kd==7)=false:=(by simpa using k7);rw[f7,Bool.false_and] at HR;clear k4 f4 k7 f7 hc;go_wp2_with fail;go_ret;exact⟨by rw[HR.o];rfl,hb⟩
theorem V6{s:Bs}{T:List Tk}(X:iN s T)(R:jB w K g gt s T b n i)(k:Nat):
  Calls aBS 229 #[pZZ g,vZZ k] w fun e w'=>e=.returned (.bool (Tr.bR T (Tr.aH T i)==k))/\Below w.heap.size w w':=by
 have h1:=pF R.rs R.hi (by have:=X.hT;omega);have hnl:=Tr.JJ T i R.hi;have hT:=X.hT;have h2:=zW (Tr.aH T i) R.rs X.good (by have:=X.hs;omega) (by omega);generalize Tr.bR T (Tr.aH T i)=kd at *;generalize Tr.gX s T (Tr.aH T i)=tx at *;generalize Tr.aH T i=nx at *;clear hnl hT R X;have HB:aC (((kd:Int)==(k:Int))=(kd==k)):=by
  show _=_
  by_cases h:kd=k
  ·subst h;simp
  ·have: ¬(kd:Int)=(k:Int):=(by omega);rw[beq_eq_false_iff_ne.2 h,beq_eq_false_iff_ne.2 this]
 go_enter func229,ntmps229
 go_wp2_with fail;refine h1.mono ?_;clear h1;rintro e w1 ⟨rfl,rfl⟩;go_wp2_with fail;refine h2.mono ?_;clear h2;rintro e w2 ⟨rfl,hb⟩;go_wp2_with fail;go_ret;exact⟨by rw[<-HB.o];rfl,hb⟩
theorem G5{s:Bs}{T:List Tk}(X:iN s T)(R:jB w K g gt s T b n i)(kind:Nat):
  Calls aBS 198 #[pZZ g,vZZ kind] w fun e w'=>e=.returned (.pointer (some ⟨w.heap.size,0,none⟩))/\Below w.heap.size w w'/\w'.heap.size=w.heap.size+1/\∀K,In K w->Br w' K w.heap.size kind (Tr.bC s T b i) []:=by
 have hp:=vF R.rs X.good R.hb (by have:=X.hs;omega);generalize Tr.bC s T b i=p at *;clear R X
 go_enter func198,ntmps198
 go_wp2_with fail;refine hp.mono ?_;clear hp;rintro e w1 ⟨rfl,m,rfl⟩;go_wp2_with fail;go_ret;exact⟨rfl,(below_drewN (aBU _ _) m).alloc (aBT _) _,by simp,fun K hK=>Br.new (w:=w.drewN m) hK kind p⟩
section
variable{P:Program}{ops:Array Oper}{Q:Exit->Act->World->Prop}{md:Region.Mode}{S:World->Prop}{L:Nat}
def iQ(P:Program)(md:Region.Mode)(ops:Array Oper)(Q:Exit->Act->World->Prop)(S:World->Prop)(L:Nat):Nat->Array Bool->Act->World->Prop
 |0,listed,a,w=>aCX md ops listed=[]/\Q .normal a w
 |fuel+1,listed,a,w=>
  (aCX md ops listed=[]->Q .normal a w)/\
  ∀i∈aCX md ops listed,wpOp P ops Q i (fun a' w'=>(i≠L->S w')/\iQ P md ops Q S L fuel (listed.setIfInBounds i true) a' w') a w
theorem zU: ∀(fuel:Nat) (listed:Array Bool) (a:Act) (w:World),iQ P md ops Q S L fuel listed a w->wpAny P md ops Q fuel listed a w
 |0,_,_,_,h=>h
 |fuel+1,_,_,_,h=>⟨h.1,fun i hi=>wpOp_mono (fun a' w' h'=>zU fuel _ a' w' h'.2) (h.2 i hi)⟩
def waits(md:Region.Mode)(ops:Array Oper)(L i:Nat):Bool:=
 match ops[L]? with
 |some o=>o.after.toList.any fun e=>aFH md e&&e.on==i
 |none=>true
theorem TE{v:Value}(hi:ops[i]? =some oi)(hsel: ∀(j:Nat) (o:Oper) cs b,ops[j]? =some o->o.op≠ .select cs b)
  (hQ: ∀c a w,Q (.panic c) (a.put oi.dst v) w->Q (.panic c) a w) (hL:waits md ops L i=true):
  ∀(fuel:Nat) (listed:Array Bool) (a:Act) (w:World),
   (∀j oj,ops[j]? =some oj->j≠i->listed.getD j true=false->(∀e∈oj.after,aFH md e=true->e.on≠i)->oi.apart ops oj=true)->
   i∈aCX md ops listed->YieldsIf P ops S oi v a->S w->
   iQ P md ops Q S L fuel (listed.setIfInBounds i true) (a.put oi.dst v) w->iQ P md ops Q S L (fuel+1) listed a w:=by
 intro fuel
 induction fuel with
 |zero=>
  intro listed a w _ hr hy hS H;refine⟨fun h=>(by rw[h] at hr;cases hr),fun j hj=> ?_⟩
  by_cases hji:j=i
  ·subst hji;exact hy.wpOp hi hS ⟨fun _=>hS,H⟩
  ·have:=ready_mono hj hji;rw[H.1] at this;cases this
 |succ fuel ih=>
  intro listed a w hfree hr hy hS H;refine⟨fun h=>(by rw[h] at hr;cases hr),fun j hj=> ?_⟩
  by_cases hji:j=i
  ·subst hji;exact hy.wpOp hi hS ⟨fun _=>hS,H⟩
  ·have h1:=H.2 j (ready_mono hj hji);obtain⟨hjun,oj,hoj,hall⟩:=mem_ready.1 hj;have hnot: ∀e∈oj.after,aFH md e=true->e.on≠i:=fun e he hb heq=>by
    have h1:=hall e he hb;have h0:=(mem_ready.1 hr).1;rw[heq] at h1;rcases Nat.lt_or_ge i listed.size with h'|h'
    ·simp[h'] at h0 h1;rw[h0] at h1;cases h1
    ·simp[Array.getElem?_eq_none h'] at h1
   have hjL:j≠L:=fun e=>(by subst e;unfold waits at hL;rw[hoj] at hL;simp only[List.any_eq_true,Bool.and_eq_true,beq_iff_eq] at hL;obtain⟨e,he,hb,hon⟩:=hL;exact hnot e (Array.mem_toList_iff.1 he) hb hon);have h2:=wpOp_putIf hoj (hfree j oj hoj hji hjun hnot) (fun cs b=>hsel i oi cs b hi) (fun cs b=>hsel j oj cs b hoj) hQ hy h1;have hfree': ∀k ok,ops[k]? =some ok->k≠i->(listed.setIfInBounds j true).getD k true=false->
     (∀e∈ok.after,aFH md e=true->e.on≠i)->oi.apart ops ok=true:=fun k ok hk hki hun hno=>by
    refine hfree k ok hk hki ?_ hno
    by_cases hjk:j=k
    ·subst hjk;exact hjun
    ·rw[getD_set_ne true hjk] at hun;exact hun
   refine wpOp_mono (fun a' w' h3=>⟨h3.2.1,ih (listed.setIfInBounds j true) a' w' hfree' (ready_mono hr (Ne.symm hji)) h3.1 (h3.2.1 hjL) ?_⟩) h2;rw[Array.setIfInBounds_comm _ _ hji];exact h3.2.2
theorem GH{v:Value}{fuel:Nat}{listed:Array Bool}{a:Act}{w:World}(hi:ops[i]? =some oi)
  (hs:aGM ops=true) (hf:Region.free md ops listed i=true) (hr:(aCX md ops listed).contains i=true) (hL:waits md ops L i=true)
  (hQ: ∀c a w,Q (.panic c) (a.put oi.dst v) w->Q (.panic c) a w) (hy:YieldsIf P ops S oi v a) (hS:S w)
  (h:iQ P md ops Q S L fuel (listed.setIfInBounds i true) (a.put oi.dst v) w):iQ P md ops Q S L (fuel+1) listed a w:=
 TE hi (Region.noSelect_spec hs) hQ hL fuel listed a w (Region.free_spec hi hf) (by simpa using hr) hy hS h
theorem M0{o:Oper}{fuel:Nat}{a:Act}{w:World}(hr:aCX md ops listed=[i])(ho:ops[i]? =some o)
  (h: ∀K':Act->World->Prop,Shut (∀a w,(i≠L->S w)->iQ P md ops Q S L fuel (listed.setIfInBounds i true) a w->K' a w)->if aEA o (yielded ops a.tmps)=true then Oper.wp P o a w K' Q else K' (a.put o.dst undef) w):
  iQ P md ops Q S L (fuel+1) listed a w:=
 ⟨fun h0=>(by rw[h0] at hr;cases hr),fun j hj=>by rw[hr,List.mem_singleton] at hj;subst hj;exact wpOp_step ho fun K' hK=>h K' fun a w hS hW=>hK a w ⟨hS,hW⟩⟩
theorem aBg(i:Nat){oi:Oper}{v:Value}{fuel:Nat}{listed:Array Bool}{a:Act}(hS:S w)
  (h:iQ P md ops Q S L fuel (listed.setIfInBounds i true) (a.put oi.dst v) w)
  (hi:ops[i]? =some oi:=by rfl) (hs:aGM ops=true:=by kernel_rfl) (hf:Region.free md ops listed i=true:=by kernel_rfl)
  (hr:(aCX md ops listed).contains i=true:=by kernel_rfl) (hL:waits md ops L i=true:=by kernel_rfl)
  (hQ: ∀c a w,Q (.panic c) (a.put oi.dst v) w->Q (.panic c) a w:=by exact fun _ _ _ h=>h)
  (hy:YieldsIf P ops S oi v a:=by
   refine Or.inl ⟨by rfl,?_⟩;intro w hSw
   try dsimp only at hSw
   repeat (have s:=hSw.1;replace hSw:=hSw.2)
   go_simp
   try with_reducible rfl):iQ P md ops Q S L (fuel+1) listed a w:=
 GH hi hs hf hr hL hQ hy hS h
def nxt(s:Nat)(l:Array Bool):Nat:=(l.toList.drop s).findIdx (!·)+s
theorem aO(s:Nat){i:Nat}{q:Prop}{oi:Oper}{v:Value}{fuel:Nat}{listed:Array Bool}{a:Act}(hS:S w)
    (hq:q) (hn:nxt s listed=i:=by first|exact(rfl:_=0)|exact(rfl:_=1)|exact(rfl:_=2)|exact(rfl:_=3)|exact(rfl:_=4)|exact(rfl:_=5)|exact(rfl:_=6)|exact(rfl:_=7)|exact(rfl:_=8)|exact(rfl:_=9)|exact(rfl:_=10)|exact(rfl:_=11)|exact(rfl:_=12)|exact(rfl:_=13)|exact(rfl:_=14)|exact(rfl:_=15)|exact(rfl:_=16)|exact(rfl:_=17)|exact(rfl:_=18)|exact(rfl:_=19)|exact(rfl:_=20)|exact(rfl:_=21)|exact(rfl:_=22)|exact(rfl:_=23)|exact(rfl:_=24)|exact(rfl:_=25)|exact(rfl:_=26)|exact(rfl:_=27)|exact(rfl:_=28)|exact(rfl:_=29)|exact(rfl:_=30)|exact(rfl:_=31)|exact(rfl:_=32)|exact(rfl:_=33)|exact(rfl:_=34)|exact(rfl:_=35)|exact(rfl:_=36)|exact(rfl:_=37)|exact(rfl:_=38)|exact(rfl:_=39))
    (hi:ops[i]? =some oi:=by rfl) (hs:aGM ops=true:=by kernel_rfl) (hf:Region.free md ops listed i=true:=by kernel_rfl)
    (hr:(aCX md ops listed).contains i=true:=by kernel_rfl) (hL:waits md ops L i=true:=by kernel_rfl)
    (hQ: ∀c a w,Q (.panic c) (a.put oi.dst v) w->Q (.panic c) a w:=by exact fun _ _ _ h=>h)
    (hy:YieldsIf P ops S oi v a:=by
      refine Or.inl ⟨by rfl,?_⟩;intro w hSw
      try dsimp only at hSw
      repeat (have s:=hSw.1;replace hSw:=hSw.2)
      go_simp
      try with_reducible rfl)
    (h:q->iQ P md ops Q S L fuel (listed.setIfInBounds i true) (a.put oi.dst v) w:=by intro hq;simp only[Act.put,List.setIfInBounds_toArray];exact hq):iQ P md ops Q S L (fuel+1) listed a w:=
  have _:=hn
  GH hi hs hf hr hL hQ hy hS (h hq)
theorem aA(i:Nat){o:Oper}{fuel:Nat}{listed:Array Bool}{a:Act}{w:World}
  (h: ∀K':Act->World->Prop,Shut (∀a w,(i≠L->S w)->iQ P md ops Q S L fuel (listed.setIfInBounds i true) a w->K' a w)->if aEA o (yielded ops a.tmps)=true then Oper.wp P o a w K' Q else K' (a.put o.dst undef) w)
  (hr:aCX md ops listed=[i]:=by kernel_rfl) (ho:ops[i]? =some o:=by rfl):iQ P md ops Q S L (fuel+1) listed a w:=M0 hr ho h
theorem WX(hr:aCX md ops listed=[])(h:Q .normal a w): ∀fuel,iQ P md ops Q S L fuel listed a w
 |0=>⟨hr,h⟩
 |_+1=>⟨fun _=>h,by rw[hr];simp⟩
theorem WV{id:Nat}{a:Act}{w:World}(L:Nat)(S:World->Prop)(hm:P.follows .mixedOrders=true)
  (h:iQ P .any ops Q S L ops.size (Array.replicate ops.size false) a w.drew):(Code.region id ops true).wp P Q a w:=
 wp_region_any hm (zU _ _ _ _ h)
theorem aR(h:Q .normal a w)(hr:aCX md ops listed=[]:=by kernel_rfl):iQ P md ops Q S L fuel listed a w:=WX hr h fuel
theorem aL{id:Nat}(L:Nat)(S:World->Prop)(h:iQ P .any ops Q S L ops.size (Array.replicate ops.size false) a w.drew)(hm:P.follows .mixedOrders=true:=by kernel_rfl):(Code.region id ops true).wp P Q a w:=WV L S hm h
end
structure Kept(K:Nat->Prop)(w w':World):Prop where
 size:w.heap.size<=w'.heap.size
 same: ∀x,K x->w'.heap[x]? =w.heap[x]?
 calm:Calm w w'
section
variable{w w' w1:World}{K:Nat->Prop}{g gt:Nat}{s:Bs}{T:List Tk}{b n i:Nat}
theorem Kept.cZ (h:Kept K w w')(g:Nat):fG K g w w':=⟨h.size,fun x hx _=>h.same x hx,h.calm⟩
theorem Kept.below (h:Below w.heap.size w w')(hK:In K w):Kept K w w':=⟨h.size,fun x hx=>h.block x (hK x hx),Calm.below h⟩
theorem jB.kept (h:jB w K g gt s T b n i)(hk:Kept K w w'):jB w' K g gt s T b n i:=
 ⟨⟨(hk.same g h.rs.tr.kg).trans h.rs.rd,h.rs.tr.cZ (hk.cZ g)⟩,h.dL.after hk.size,h.hi,h.hb⟩
theorem jB.drew (h:jB w K g gt s T b n i):jB w.drew K g gt s T b n i:=h.below ((aBU _ _).drew)
end
theorem qF:(aBS.info? 122).map (fun i=>(i.zero,i.size,i.bytes))=some (some .nilIface,1,16):=by kernel_rfl
section
variable{w w' w5:World}{K:Nat->Prop}{g h kind at_:Nat}{pts:List Tr.PT}{A:Option Addr}{c:Nat}{vs:List Value}
theorem OB.below (hb:OB w K h kind at_ pts A c vs)(hbl:Below w.heap.size w w'):OB w' K h kind at_ pts A c vs:=
 ⟨hb.nk,hb.blk.below hbl hb.blk.lt,aM hb.own fun q hq=>hbl.block q (hb.kF q hq),hb.nr,eF.keep hbl.size (fun b hF hl=>⟨hbl.block b hl,hF⟩) _ _ hb.parts⟩
theorem Br.below (hb:Br w K h kind at_ pts)(hbl:Below w.heap.size w w'):Br w' K h kind at_ pts:=by
 obtain⟨A,c,vs,hb⟩:=hb;exact⟨A,c,vs,hb.below hbl⟩
theorem OB.push (hb:OB w K h kind at_ pts A c vs)(hK:In K w){p:Tr.PT}{v:Value}{gg cap:Nat}
  (hp:dE w (fun x=> ¬K x/\x≠h/\some x≠(aBX A pts.length c).ownBlock) p v)
  (hown:w5.ownsRow 0 122 1 (.slice (some ⟨gg,0,none⟩) (pts.length+1) cap) (pts.length+1) (vs++[v]))
  (hgrow:(w.alloc (.cells #[v] 122)).grownBy w5 (aBX A pts.length c).ownBlock)
  (hat:(aBX A pts.length c).ownBlock=some gg\/gg=w.heap.size+1):
  Br (w5.setCell ⟨h,1,none⟩ (.slice (some ⟨gg,0,none⟩) (pts.length+1) cap)) K h kind at_ (pts++[p])/\Kept K w (w5.setCell ⟨h,1,none⟩ (.slice (some ⟨gg,0,none⟩) (pts.length+1) cap)):=by
 have hz:=hgrow.size;simp at hz;have old: ∀x,x<w.heap.size->some x≠(aBX A pts.length c).ownBlock->x≠h->(w5.setCell ⟨h,1,none⟩ (.slice (some ⟨gg,0,none⟩) (pts.length+1) cap)).heap[x]? =w.heap[x]? :=fun x hx hr hh=>((aCG w5 ⟨h,1,none⟩ _ x hh).trans (hgrow.block x (by simp;omega) hr)).trans (Below.heap_alloc w _ x hx)
 have hrn: ∀x,K x->some x≠(aBX A pts.length c).ownBlock:=fun x hx e=>hb.nr x e.symm hx
 have hhn: ∀x,K x->x≠h:=fun x hx e=>hb.nk (e▸hx)
 have Sw: ¬K gg:=fun hk=>by
  rcases hat with e|e
  ·exact hb.nr gg e hk
  ·have:=hK gg hk;omega
 have hgn: ∀x,x<w.heap.size->some x≠(aBX A pts.length c).ownBlock->some x≠some gg:=fun x hx hr e=>by
  rcases hat with e'|e'
  ·exact hr (e.trans e'.symm)
  ·injection e;omega
 have hhr:(h:Nat)≠gg:=fun e=>hgn h hb.blk.lt hb.jP (by rw[e])
 have hlen:(pts++[p]).length=pts.length+1:=by simp
 have rE:=((hb.blk.alloc (.cells #[v] 122)).grown hgrow hb.jP).bD 1 (.slice (some ⟨gg,0,none⟩) (pts.length+1) cap);have hsz:w5.heap.size<=(w5.setCell ⟨h,1,none⟩ (.slice (some ⟨gg,0,none⟩) (pts.length+1) cap)).heap.size:=by simp[aCI]
 refine⟨⟨some ⟨gg,0,none⟩,cap,vs++[v],hb.nk,?_,?_,?_,?_⟩,by omega,fun x hx=>old x (hK x hx) (hrn x hx) (hhn x hx),((show Calm w (w.alloc (.cells #[v] 122))from⟨rfl,rfl,rfl⟩).trans ⟨hgrow.os,hgrow.tape,hgrow.output⟩).trans (Calm.set w5 _ _)⟩
 ·rw[hlen];exact rE
 ·rw[hlen];exact aM hown fun q hq=>aCG w5 ⟨h,1,none⟩ _ q (by simp only[aCZ,aDB.injEq] at hq;subst hq;exact Ne.symm hhr)
 ·intro q hq;simp only[aCZ,aDB.injEq] at hq;subst hq;exact Sw
 ·refine eF.app ?_ (eF.one ?_)
  ·exact eF.keep (by omega) (fun x hF hl=>⟨old x hl hF.2.2 hF.2.1,hF.1,hF.2.1,hgn x hl hF.2.2⟩) _ _ hb.parts
  ·exact dE.keep (by omega) (fun x hF hl=>⟨old x hl hF.2.2 hF.2.1,hF.1,hF.2.1,hgn x hl hF.2.2⟩) _ _ hp
end
def I6(w:World)(K:Nat->Prop)(g gt h kind at_:Nat)(s:Bs)(T:List Tk)(b n:Nat)(st:Tr.St)(e:Ending)(w':World):Prop:=
 e=.returned (.tuple #[])/\fG K g w w'/\jB w' K g gt s T b n st.2/\Br w' K h kind at_ st.1
theorem vI{s:Bs}{T:List Tk}{kind at_:Nat}(X:iN s T)(R:jB w K g gt s T b n i)(hb:Br w K h kind at_ pts)(word:Bs)(hl:pts.length<=100000000):
  Calls aBS 228 #[pZZ g,pZZ h,.string ⟨word.toArray⟩] w (I6 w K g gt h kind at_ s T b n (Tr.thn (pts,i) (Tr.nU s T b word))):=by
 obtain⟨i0,ji,iW,jz1,iV⟩:=info_parts qF;obtain⟨A,c,vs,hb⟩:=hb;have HP:aC (Tr.thn (pts,i) (Tr.nU s T b word)=(pts++[.gap word (Tr.bC s T b i) false],i)):=rfl;rw[HP.o];clear HP
 go_enter func228,ntmps228
 refine aL 15 (fun w':World=>w'.cell? ⟨h,1,none⟩=some (.slice A pts.length c)) ?_;have hd:Below w.heap.size w w.drew:=(aBU _ _).drew;have hA:=Kept.cZ (Kept.below hd R.dL) g;have R:=R.drew;have hb:=hb.below hd;have hpl:=vF R.rs X.good R.hb (by have:=X.hs;omega);clear hd X;generalize w.drew=w1 at *;have o1:=hb.blk.cell 1;simp at o1;have hS0:(fun w':World=>w'.cell? ⟨h,1,none⟩=some (.slice A pts.length c)) w1:=o1
 iterate 7 refine aO 0 hS0 ?_
 clear hS0;generalize Tr.bC s T b i=pl at *;refine aA 7 fun C hC=> ?_
 go_simp
 ((with_reducible refine hpl.mono ?_))
 clear hpl;rintro e w2 ⟨rfl,m,rfl⟩;have hd:Below w1.heap.size w1 (w1.drewN m):=below_drewN (aBU _ _) m;have hA:=hA.trans (Kept.cZ (Kept.below hd R.dL) g);have R:=R.below hd;have hb:=hb.below hd;clear hd;have o1:(w1.drewN m).cell? ⟨h,1,none⟩=some (.slice A pts.length c):=o1;refine hC.out _ _ (fun _=>o1) ?_;clear hC C;generalize w1.drewN m=w2 at *;refine aA 8 fun C hC=> ?_
 go_simp;refine hC.out _ _ (fun _=>o1) ?_;clear hC C;have hd:=nR w2 (.cells #[.string ⟨word.toArray⟩,vZZ pl,.bool false] 308);have hBg:aV (w2.alloc (.cells #[.string ⟨word.toArray⟩,vZZ pl,.bool false] 308)) w2.heap.size 308 #[.string ⟨word.toArray⟩,vZZ pl,.bool false]:=aV.new _ _ _;have hA:=hA.trans (Kept.cZ (Kept.below hd R.dL) g);have hp:dE (w2.alloc (.cells #[.string ⟨word.toArray⟩,vZZ pl,.bool false] 308)) (fun x=> ¬K x/\x≠h/\some x≠(aBX A pts.length c).ownBlock) (.gap word pl false) (.iface 176 (.pointer (some ⟨w2.heap.size,0,none⟩))):=
  ⟨w2.heap.size,rfl,⟨fun hk=>aDR _ (R.dL _ hk),fun e=>by have:=hb.blk.lt;omega,fun e=>by have:=hb.kF _ e.symm;omega⟩,hBg⟩
 have R:=R.below hd;have hb:=hb.below hd;clear hd hBg;refine aA 9 fun C hC=> ?_
 go_simp;have o1:(w2.alloc (.cells #[.string ⟨word.toArray⟩,vZZ pl,.bool false] 308)).cell? ⟨h,1,none⟩=some (.slice A pts.length c):=by have:=hb.blk.cell 1;simpa using this
 refine hC.out _ _ (fun _=>o1) ?_;clear hC C;obtain⟨q,hq⟩:=dC w2.heap.size;rw[<-hq] at hp⊢;clear hq;generalize(w2.alloc _)=w3 at *;refine aA 10 fun C hC=> ?_
 go_simp;refine hC.out _ _ (fun _=>o1) ?_;clear hC C;refine aA 11 fun C hC=> ?_
 go_simp;refine hC.out _ _ (fun _=>(aJ _ _ _ _ hb.blk.lt).trans o1) ?_;clear hC C;refine aA 12 fun C hC=> ?_
 refine step_append_lies _ (by rfl) _ _ _ (by rfl) 0 122 i0 _ 1 16 underlying119 ji iW jz1 iV rfl (by omega) (.slice A pts.length c) pts.length vs (by rfl) (hb.own.alloc (.cells #[.iface 176 (pZZ q)] 122)) ⟨w3.heap.size,0,none⟩ 1 1 [.iface 176 (pZZ q)] (by rfl) (by rfl) (aCK (heap_alloc_new w3 _)) (by simp[aCA]) (by omega) (by unfold maxLen;omega) (by omega) (aBZ _) (w3.heap.size+1) (by simp) ?_;intro gg cap' w5 hown5 hgrow hat lD;have kX:=hb.push R.dL hp hown5 hgrow hat;have hg5:=(hb.blk.alloc (.cells #[.iface 176 (pZZ q)] 122)).grown hgrow hb.jP;have b1:=hg5.cell 1;have bf:=hg5.frozen 1;simp at b1;refine hC.out _ _ (fun _=>b1) ?_;clear hC C;refine aA 13 fun C hC=> ?_
 go_simp;refine hC.out _ _ (fun _=>b1) ?_;clear hC C;refine aA 14 fun C hC=> ?_
 go_simp;refine hC.out _ _ (fun _=>b1) ?_;clear hC C;refine aA 15 fun C hC=> ?_
 go_simp;refine hC.out _ _ (fun h=>absurd rfl h) ?_;clear hC C;refine aR ?_;have hB:=kX.1;have R:=R.kept kX.2;have hA:=hA.trans (kX.2.cZ g);clear hb hp o1 hown5 hgrow hat lD kX hg5 b1 bf;go_end0;exact⟨rfl,hA,R,hB⟩
theorem Qy(m:String)(a:Addr)(w:World)(hm:m= "From"):(nilAhead 542 171 (.pointer (some a)) m).run aBS w=.ok (some false) w:=by subst hm;kernel_rfl
theorem Kl(a:Addr)(w:World):(method 542 171 (.pointer (some a)) "From").run aBS w=.ok (324,.pointer (some a)) w:=by kernel_rfl
theorem Ue(a:Addr)(w:World):(method 542 176 (.pointer (some a)) "From").run aBS w=.ok (327,.pointer (some a)) w:=by kernel_rfl
theorem o9(a:Addr)(w:World):(method 542 114 (.pointer (some a)) "From").run aBS w=.ok (322,.pointer (some a)) w:=by kernel_rfl
theorem Jk{a:Nat}(q:Nat)(h:w.cell? ⟨q,2,none⟩=some (vZZ a)):Calls aBS 324 #[pZZ q] w fun e w'=>e=.returned (vZZ a)/\w'=w:=by
 go_enter func324,ntmps324
 go_wp2
 go_ret;exact⟨rfl,rfl⟩
theorem Ud{a:Nat}(q:Nat)(h:w.cell? ⟨q,1,none⟩=some (vZZ a)):Calls aBS 327 #[pZZ q] w fun e w'=>e=.returned (vZZ a)/\w'=w:=by
 go_enter func327,ntmps327
 go_wp2
 go_ret;exact⟨rfl,rfl⟩
theorem G6{a:Nat}(q:Nat)(h:w.cell? ⟨q,2,none⟩=some (vZZ a)):Calls aBS 322 #[pZZ q] w fun e w'=>e=.returned (vZZ a)/\w'=w:=by
 go_enter func322,ntmps322
 go_wp2
 go_ret;exact⟨rfl,rfl⟩
def aBP(w:World)(t q F a:Nat):Prop:=(∀w,(nilAhead 542 t (pZZ q) "From").run aBS w=.ok (some false) w)/\(∀w,(method 542 t (pZZ q) "From").run aBS w=.ok (F,pZZ q) w)/\(∀args w,(callFunc F args).run aBS w=.ok (.enter F args) w)/\
 ∀w',Below w.heap.size w w'->Calls aBS F #[pZZ q] w' fun e w''=>e=.returned (vZZ a)/\w''=w'
theorem dE.from_ (h:dE w F p v): ∃t q f,v=.iface t (pZZ q)/\aBP w t q f p.from_:=by
 cases p with
 |leaf k t a=>obtain⟨q,rfl,hF,hB⟩:=h;refine⟨_,q,_,rfl,fun w=>Qy _ _ _ rfl,Kl _,fun _ _=>by kernel_rfl,fun w' hb=>Jk q ?_⟩;have:=(hB.below hb hB.lt).cell 2;simpa [Tr.PT.from_] using this
 |gap t a d=>obtain⟨q,rfl,hF,hB⟩:=h;refine⟨_,q,_,rfl,fun w=>by kernel_rfl,Ue _,fun _ _=>by kernel_rfl,fun w' hb=>Ud q ?_⟩;have:=(hB.below hb hB.lt).cell 1;simpa [Tr.PT.from_] using this
 |branch k a l=>obtain⟨q,rfl,hF,A,c,vs,hB,_⟩:=h;refine⟨_,q,_,rfl,fun w=>by kernel_rfl,o9 _,fun _ _=>by kernel_rfl,fun w' hb=>G6 q ?_⟩;have:=(hB.below hb hB.lt).cell 2;simpa [Tr.PT.from_] using this
theorem IP(hK:In K w)(kind:Nat)(hp:dE w (fun x=> ¬K x) p v):
  Calls aBS 256 #[vZZ kind,v] w fun e w'=> ∃h,e=.returned (pZZ h)/\Below w.heap.size w w'/\w.heap.size<=h/\Br w' K h kind p.from_ [p]:=by
 obtain⟨t,q,f,rfl,hn,hm,hcf,hc⟩:=hp.from_;have hd:=nR w (.cells #[.iface t (pZZ q)] 122);have hc:=hc _ hd;generalize Tr.PT.from_ p=a at *
 go_enter func256,ntmps256
 go_wp2_with fail;refine hc.mono ?_;clear hc;rintro e w' ⟨rfl,rfl⟩;go_wp2_with fail;go_ret;have hB:=aV.new (w.alloc (.cells #[.iface t (pZZ q)] 122)) 178 #[vZZ kind,.slice (some ⟨w.heap.size,0,none⟩) 1 1,vZZ a];have hz:(w.alloc (.cells #[.iface t (pZZ q)] 122)).heap.size=w.heap.size+1:=by simp
 rw[hz] at hB;have hd2:Below w.heap.size w ((w.alloc (.cells #[.iface t (pZZ q)] 122)).alloc (.cells #[vZZ kind,.slice (some ⟨w.heap.size,0,none⟩) 1 1,vZZ a] 178)):=hd.alloc hd.size _;refine⟨w.heap.size+1,by rw[<-hz];rfl,hd2,by omega,some ⟨w.heap.size,0,none⟩,1,[.iface t (pZZ q)],⟨fun h=>by have:=hK _ h;omega,hB,?_,?_,?_⟩⟩
 ·have h0:=World.ownsRow_lit (base:=0) (e:=122) (size:=1) w #[.iface t (pZZ q)] 1 (aBZ _) (by unfold maxLen;omega) rfl;exact h0.alloc _
 ·intro x hx;simp only[aCZ,aDB.injEq] at hx;subst hx;exact fun h=>aDR _ (hK _ h)
 ·exact eF.one (dE.keep hd2.size (fun x hF hl=>⟨hd2.block x hl,hF,by omega,fun e=>by simp only[aCZ,aDB.injEq] at e;omega⟩) _ _ hp)
def bS(s:Bs)(T:List Tk)(b i j:Nat):List Tr.PT:=((T.drop i).take (j-i)).map (Tr.gY s b)
theorem sW(s:Bs)(T:List Tk)(b i:Nat):bS s T b i i=[]:=by unfold bS;simp
theorem sV(s:Bs)(T:List Tk)(b i j:Nat)(h:i<=j)(hj:j<T.length):bS s T b i (j+1)=bS s T b i j++[Tr.gY s b T[j]]:=by
 unfold bS;rw[show j+1-i=j-i+1 by omega,List.take_succ_eq_append_getElem (by rw[List.length_drop];omega),List.map_append,List.getElem_drop];simp only[List.map_cons,List.map_nil]
 congr 3
 simp only[show i+(j-i)=j by omega]
theorem vK(s:Bs)(T:List Tk)(b i j:Nat):(bS s T b i j).length<=j-i:=by
 unfold bS;rw[List.length_map];exact List.length_take_le _ _
theorem jB.at_ {s:Bs}{T:List Tk}{j:Nat}(h:jB w K g gt s T b n i)(X:iN s T)(hij:i<=j)(hj:j<=T.length):jB (w.setCell ⟨g,1,none⟩ (vZZ j)) K g gt s T b n j:=by
 have h1:=(h.rs.rd.bD 1 (vZZ j));simp at h1;have ha:fG K g w (w.setCell ⟨g,1,none⟩ (vZZ j)):=(fG.refl K g w).set 1 _;exact⟨⟨h1,h.rs.tr.cZ ha⟩,h.dL.after ha.size,hj,Nat.le_trans h.hb (X.good.up _ _ hij)⟩
theorem jB.ng {s:Bs}{T:List Tk}(h:jB w K g gt s T b n i):K g:=h.rs.tr.kg
theorem Br.seen {kind at_:Nat}(hb:Br w K h kind at_ pts)(hg:K g)(i:Nat)(v:Value):Br (w.setCell ⟨g,i,none⟩ v) K h kind at_ pts:=
 hb.cZ ((fG.refl (Old w) g w).set i v) hg
def aBH(w:World)(K:Nat->Prop)(g gt h kind at_:Nat)(s:Bs)(T:List Tk)(b n j:Nat)(pts:List Tr.PT)(w':World):Prop:=
 fG K g w w'/\jB w' K g gt s T b n j/\Br w' K h kind at_ pts
theorem yE{s:Bs}{T:List Tk}{kind at_:Nat}(X:iN s T)(R:jB w K g gt s T b n i)(hb:Br w K h kind at_ pts)(hl:pts.length<=50000000):
  Calls aBS 199 #[pZZ g,pZZ h] w (I6 w K g gt h kind at_ s T b n (Tr.thn (pts,i) (Tr.aK s T b))):=by
 obtain⟨i0,ji,iW,jz1,iV⟩:=info_parts qF;have HP:aC (Tr.thn (pts,i) (Tr.aK s T b)=(pts++bS s T b i (Tr.toP T i),Tr.toP T i)):=rfl;have hT:=X.hT;have hs:=X.hs;have F_:=Tr.KG T i R.hi;have hto2:=Tr.vY T i;have hnl:=Tr.JJ T i R.hi;have HT:aC (Tr.toP T i=min (Tr.aH T i+1) T.length):=rfl;have hi:=R.hi;have hnx:=fun m=>pF (R.drewN m).rs R.hi (by omega)
 generalize Tr.toP T i=oJ at *;rw[HP.o];clear HP;generalize Tr.aH T i=nx at *;have hm1:=uX nx (by omega);have Hto:aC (min ((nx:Int)+1) (T.length:Int)=(oJ:Int)):=by show _=_;rw[HT.o];omega
 clear HT
 go_enter func199,ntmps199
 obtain⟨g0,g1,g2,_⟩:=R.rs.cells;obtain⟨d,Ad,cd,t0,t1,d0,hrow⟩:=R.rs.tr.cells;go_wp2_with fail
 go_quiet ((go_at_call 104;exact Calls.quiet_of_same (hnx _)))
 rw[Hto.o];have hd:Below w.heap.size w (w.drewN nq):=below_drewN (aBU _ _) _;have hA:=Kept.cZ (Kept.below hd R.dL) g;have R:=R.below hd;have hb:=hb.below hd;clear hd hnx hnl hm1 Hto g0 g1 g2 t0 t1 d0 hrow;generalize w.drewN nq=w1 at *;go_wp2_with fail
 go_loopg [5] (oJ-i) (fun q v wr=> ∃j,i<=j/\j<=oJ/\oJ-j<=q/\aBH w K g gt h kind at_ s T b n j (pts++bS s T b i j) wr)
 case atStart=>exact⟨i,aBT _,F_,aBT _,hA,R,by rw[sW,List.append_nil];exact hb⟩
 case round=>
  clear hA R hb;obtain⟨j,hij,hjt,hq,hA,R,hb⟩:=hrel;obtain⟨g0,g1,g2,_⟩:=R.rs.cells;obtain⟨d,Ad,ct,t0,t1,d0,hrow⟩:=R.rs.tr.cells
  by_cases hlt:j<oJ
  ·have Jv:j<T.length:=(by omega);have j0:=iZ j;have j1:=jJ j T.length;have j2:=jJ j oJ;obtain⟨br,o,rfl,hbr,hbl,q0,q1,q2⟩:=hrow.tk Jv;have HL:=aB (sV s T b i j hij Jv);have hll:=vK s T b i j;obtain⟨h1,h2,h3⟩:=X.good.at_ Jv;have HA:=aB (Tr.VU s T j Jv);have hbj:b<=Tr.dD s T j:=R.hb;rw[HA.o] at hbj;clear HA;have EG:aC (Tr.gY s b T[j]=.leaf T[j].1 (Tr.jI s T[j]) (T[j].2.1-b)):=rfl;have uU:=aB (yG s T[j]);generalize T[j]=t at *;obtain⟨tk,ta,tl⟩:=t;dsimp only at h1 h2 h3 q0 q1 q2 hbj EG uU;have hpl:(pts++bS s T b i j).length<=60000000:=(by rw[List.length_append];omega);have HL2:aC (pts++bS s T b i (j+1)=(pts++bS s T b i j)++[.leaf tk (Tr.jI s (tk,ta,tl)) (ta-b)]):=(by show _=_;rw[HL.o,EG.o,List.append_assoc]);clear HL EG hll hrow;obtain⟨A,c,vs,hb⟩:=hb;generalize pts++bS s T b i j=ps at *;obtain⟨bx,hbx⟩:=dC wr.heap.size;go_upto_region 3 with fail;refine aL 14 (fun w':World=>w'.cell? ⟨g,0,none⟩=some (pZZ gt)/\w'.cell? ⟨g,1,none⟩=some (vZZ j)/\w'.cell? ⟨gt,1,none⟩=some (.slice (some ⟨br,o,none⟩) T.length ct)/\w'.cell? ⟨br,o+j*3,none⟩=some (vZZ tk)/\w'.cell? ⟨br,o+j*3+1,none⟩=some (vZZ ta)/\w'.cell? ⟨br,o+j*3+2,none⟩=some (vZZ tl)) ?_;have hgl:=R.rs.rd.lt;have Sv:=World.block_lt_of_cell? wr ⟨gt,0,none⟩ t0;have hS0:(fun w':World=>w'.cell? ⟨g,0,none⟩=some (pZZ gt)/\w'.cell? ⟨g,1,none⟩=some (vZZ j)/\w'.cell? ⟨gt,1,none⟩=some (.slice (some ⟨br,o,none⟩) T.length ct)/\w'.cell? ⟨br,o+j*3,none⟩=some (vZZ tk)/\w'.cell? ⟨br,o+j*3+1,none⟩=some (vZZ ta)/\w'.cell? ⟨br,o+j*3+2,none⟩=some (vZZ tl)) wr.drew:=⟨g0,g1,t1,q0,q1,q2⟩
   iterate 13 refine aO 0 hS0 ?_
   clear hS0;refine aA 13 fun C hC=> ?_
   go_simp;refine hC.out _ _ (fun _=>⟨(aJ _ _ _ _ hgl).trans g0,(aJ _ _ _ _ hgl).trans g1,(aJ _ _ _ _ Sv).trans t1,(aJ _ _ _ _ hbl).trans q0,(aJ _ _ _ _ hbl).trans q1,(aJ _ _ _ _ hbl).trans q2⟩) ?_;clear hC C;refine aA 14 fun C hC=> ?_
   go_simp;refine hC.out _ _ (fun h=>absurd rfl h) ?_;clear hC C;refine aR ?_;have hd:Below wr.heap.size wr ((wr.alloc (.cells #[vZZ tk,vZZ ta,vZZ tl] 127)).drew):=((aBU _ _).alloc (aBT _) _).drew;have hA:=hA.trans (Kept.cZ (Kept.below hd R.dL) g);have R:=R.below hd;have hb:=hb.below hd;have hBx:aV ((wr.alloc (.cells #[vZZ tk,vZZ ta,vZZ tl] 127)).drew) bx 127 #[vZZ tk,vZZ ta,vZZ tl]:=(by rw[hbx];exact(aV.new _ _ _).drew);rw[<-hbx];clear hbx hd g0 g1 g2 t0 t1 d0 q0 q1 q2 hbl hbr hgl Sv;generalize(wr.alloc _).drew=w2 at *;go_wp2_with fail;refine aL 34 (fun w':World=>w'.cell? ⟨h,1,none⟩=some (.slice A ps.length c)/\w'.cell? ⟨bx,0,none⟩=some (vZZ tk)/\w'.cell? ⟨bx,1,none⟩=some (vZZ ta)/\w'.cell? ⟨bx,2,none⟩=some (vZZ tl)/\w'.cell? ⟨g,0,none⟩=some (pZZ gt)/\w'.cell? ⟨g,2,none⟩=some (vZZ b)) ?_;have hd:Below w2.heap.size w2 w2.drew:=(aBU _ _).drew;have hA:=hA.trans (Kept.cZ (Kept.below hd R.dL) g);have R:=R.below hd;have hb:=hb.below hd;have hBx:=hBx.drew;clear hd;generalize w2.drew=w3 at *;have o1:=hb.blk.cell 1;have b0:=hBx.cell 0;have b1:=hBx.cell 1;have b2:=hBx.cell 2;simp at o1 b0 b1 b2;obtain⟨g0,_,g2,_⟩:=R.rs.cells;obtain⟨d,Ad,ct,t0,t1,d0,_⟩:=R.rs.tr.cells;have hS0:(fun w':World=>w'.cell? ⟨h,1,none⟩=some (.slice A ps.length c)/\w'.cell? ⟨bx,0,none⟩=some (vZZ tk)/\w'.cell? ⟨bx,1,none⟩=some (vZZ ta)/\w'.cell? ⟨bx,2,none⟩=some (vZZ tl)/\w'.cell? ⟨g,0,none⟩=some (pZZ gt)/\w'.cell? ⟨g,2,none⟩=some (vZZ b)) w3:=⟨o1,b0,b1,b2,g0,g2⟩;have a0:aCQ.wrap ((ta:Int)+tl)=(ta:Int)+tl:=aCV _ (by omega);have a1:(0:Int)<=(ta:Int)+tl:=(by omega);have a2:((ta:Int)+tl).toNat=ta+tl:=(by omega);have a3:(ta:Int)+tl<=(s.length:Int):=(by omega);have a4:(ta:Int)<=(ta:Int)+tl:=(by omega);have a5:ta<=ta+tl:=(by omega);have a6:ta+tl<=s.length:=h1;have a7:aCQ.wrap ((ta:Int)-b)=(ta:Int)-b:=aCV _ (by omega);have Hab:aC ((ta:Int)-b=((ta-b:Nat):Int)):=by show _=_;omega
   iterate 11 refine aO 0 hS0 ?_
   iterate 7 refine aO 12 hS0 ?_
   iterate 7 refine aO 20 hS0 ?_
   clear hS0;refine aA 11 fun C hC=> ?_
   go_simp
   ((with_reducible refine(uZ t0 d0).mono ?_))
   rintro e w4 ⟨rfl,rfl⟩;refine hC.out _ _ (fun _=>⟨o1,b0,b1,b2,g0,g2⟩) ?_;clear hC C;refine aA 19 fun C hC=> ?_
   go_simp;refine hC.out _ _ (fun _=>⟨o1,b0,b1,b2,g0,g2⟩) ?_;clear hC C;refine aA 27 fun C hC=> ?_
   go_simp;refine hC.out _ _ (fun _=>⟨o1,b0,b1,b2,g0,g2⟩) ?_;clear hC C;have hd:=nR w4 (.cells #[vZZ tk,.string ((⟨s.toArray⟩:ByteArray).extract ta (ta+tl)),kZZ ((ta:Int)-b)] 173);have hBg:aV (w4.alloc (.cells #[vZZ tk,.string ((⟨s.toArray⟩:ByteArray).extract ta (ta+tl)),kZZ ((ta:Int)-b)] 173)) w4.heap.size 173 #[vZZ tk,.string ((⟨s.toArray⟩:ByteArray).extract ta (ta+tl)),kZZ ((ta:Int)-b)]:=aV.new _ _ _;rw[show Value.string ((⟨s.toArray⟩:ByteArray).extract ta (ta+tl))=.string ⟨(Tr.jI s (tk,ta,tl)).toArray⟩from uU.o,Hab.o] at hBg;have hA:=hA.trans (Kept.cZ (Kept.below hd R.dL) g);have hp:dE (w4.alloc (.cells #[vZZ tk,.string ((⟨s.toArray⟩:ByteArray).extract ta (ta+tl)),kZZ ((ta:Int)-b)] 173)) (fun x=> ¬K x/\x≠h/\some x≠(aBX A ps.length c).ownBlock) (.leaf tk (Tr.jI s (tk,ta,tl)) (ta-b)) (.iface 171 (.pointer (some ⟨w4.heap.size,0,none⟩))):=
    ⟨w4.heap.size,rfl,⟨fun hk=>aDR _ (R.dL _ hk),fun e=>by have:=hb.blk.lt;omega,fun e=>by have:=hb.kF _ e.symm;omega⟩,by rw[show Value.string ((⟨s.toArray⟩:ByteArray).extract ta (ta+tl))=.string ⟨(Tr.jI s (tk,ta,tl)).toArray⟩from uU.o,Hab.o];exact hBg⟩
   have pJ:=hBx.lt;have hgl:=R.rs.rd.lt;refine aA 28 fun C hC=> ?_
   go_simp;have c0:=(aJ w4 (.cells #[vZZ tk,.string ((⟨s.toArray⟩:ByteArray).extract ta (ta+tl)),kZZ ((ta:Int)-b)] 173) bx 0 pJ).trans b0;have c1:=(aJ w4 (.cells #[vZZ tk,.string ((⟨s.toArray⟩:ByteArray).extract ta (ta+tl)),kZZ ((ta:Int)-b)] 173) bx 1 pJ).trans b1;have c2:=(aJ w4 (.cells #[vZZ tk,.string ((⟨s.toArray⟩:ByteArray).extract ta (ta+tl)),kZZ ((ta:Int)-b)] 173) bx 2 pJ).trans b2;have f0:=(aJ w4 (.cells #[vZZ tk,.string ((⟨s.toArray⟩:ByteArray).extract ta (ta+tl)),kZZ ((ta:Int)-b)] 173) g 0 hgl).trans g0;have f2:=(aJ w4 (.cells #[vZZ tk,.string ((⟨s.toArray⟩:ByteArray).extract ta (ta+tl)),kZZ ((ta:Int)-b)] 173) g 2 hgl).trans g2;have hBx:=hBx.alloc (.cells #[vZZ tk,.string ((⟨s.toArray⟩:ByteArray).extract ta (ta+tl)),kZZ ((ta:Int)-b)] 173);have R:=R.below hd;have hb:=hb.below hd;have o1:(w4.alloc (.cells #[vZZ tk,.string ((⟨s.toArray⟩:ByteArray).extract ta (ta+tl)),kZZ ((ta:Int)-b)] 173)).cell? ⟨h,1,none⟩=some (.slice A ps.length c):=(by have:=hb.blk.cell 1;simpa using this);refine hC.out _ _ (fun _=>⟨o1,c0,c1,c2,f0,f2⟩) ?_;clear hC C hd hBg b0 b1 b2 g0 g2 t0 t1 d0;obtain⟨q,hq⟩:=dC w4.heap.size;rw[<-hq] at hp⊢;clear hq;generalize(w4.alloc _)=w6 at *;refine aA 29 fun C hC=> ?_
   go_simp;refine hC.out _ _ (fun _=>⟨o1,c0,c1,c2,f0,f2⟩) ?_;clear hC C;refine aA 30 fun C hC=> ?_
   go_simp;refine hC.out _ _ (fun _=>⟨(aJ _ _ _ _ hb.blk.lt).trans o1,(aJ _ _ _ _ hBx.lt).trans c0,(aJ _ _ _ _ hBx.lt).trans c1,(aJ _ _ _ _ hBx.lt).trans c2,(aJ _ _ _ _ R.rs.rd.lt).trans f0,(aJ _ _ _ _ R.rs.rd.lt).trans f2⟩) ?_;clear hC C;refine aA 31 fun C hC=> ?_
   refine step_append_lies _ (by rfl) _ _ _ (by rfl) 0 122 i0 _ 1 16 underlying119 ji iW jz1 iV rfl (by omega) (.slice A ps.length c) ps.length vs (by rfl) (hb.own.alloc (.cells #[.iface 171 (pZZ q)] 122)) ⟨w6.heap.size,0,none⟩ 1 1 [.iface 171 (pZZ q)] (by rfl) (by rfl) (aCK (heap_alloc_new w6 _)) (by simp[aCA]) (by omega) (by unfold maxLen;omega) (by omega) (aBZ _) (w6.heap.size+1) (by simp) ?_;intro gg cap' w5 hown5 hgrow hat lD;have kX:=hb.push R.dL hp hown5 hgrow hat;have hg5:=(hb.blk.alloc (.cells #[.iface 171 (pZZ q)] 122)).grown hgrow hb.jP;have b1:=hg5.cell 1;have bf:=hg5.frozen 1;simp at b1;have hx5:=(hBx.alloc (.cells #[.iface 171 (pZZ q)] 122)).grown hgrow (own_ne hb.own hBx (by decide));have JL:=(R.rs.rd.alloc (.cells #[.iface 171 (pZZ q)] 122)).grown hgrow (own_ne hb.own R.rs.rd (by decide));have e0:=hx5.cell 0;have e1:=hx5.cell 1;have e2:=hx5.cell 2;have k0:=JL.cell 0;have k2:=JL.cell 2;simp at e0 e1 e2 k0 k2;refine hC.out _ _ (fun _=>⟨b1,e0,e1,e2,k0,k2⟩) ?_;clear hC C;refine aA 32 fun C hC=> ?_
   go_simp;refine hC.out _ _ (fun _=>⟨b1,e0,e1,e2,k0,k2⟩) ?_;clear hC C;refine aA 33 fun C hC=> ?_
   go_simp;refine hC.out _ _ (fun _=>⟨b1,e0,e1,e2,k0,k2⟩) ?_;clear hC C;refine aA 34 fun C hC=> ?_
   go_simp;refine hC.out _ _ (fun h=>absurd rfl h) ?_;clear hC C;refine aR ?_;have hB:=kX.1;have R:=R.kept kX.2;have hA:=hA.trans (kX.2.cZ g);clear hb hp o1 hown5 hgrow hat lD kX hg5 b1 bf;clear o1 c0 c1 c2 f0 f2 pJ hgl hBx hx5 JL e0 e1 e2 k0 k2 a0 a1 a2 a3 a4 a5 a6 a7 Hab uU;generalize(aCI _ _ (.slice (some ⟨gg,0,none⟩) (ps.length+1) cap'))=w7 at *;obtain⟨_,g1,_,_⟩:=R.rs.cells;have gf:=R.rs.rd.frozen 1;go_wp2_with fail
   go_roundg (oJ-(j+1))
   case rel=>
    have hR:=R.at_ X (j:=j+1) (by omega) (by omega);have Er:=hB.seen R.ng 1 (kZZ ((j+1:Nat):Int))
    try unfold vZZ at Er
    rw[<-HL2.o,show((j+1:Nat):Int)=(j:Int)+1 by omega] at Er;have hA2:=hA.set 1 (kZZ ((j:Int)+1))
    try unfold vZZ at hR
    rw[show((j+1:Nat):Int)=(j:Int)+1 by omega] at hR;exact⟨j+1,by omega,by omega,aBT _,hA2,hR,Er⟩
   case measure=>omega
  ·obtain rfl:j=oJ:=(by omega);have j2:=lC j;go_wp2_with fail;go_end0;exact⟨rfl,hA,R,hb⟩
def I7(w:World)(K:Nat->Prop)(g gt:Nat)(s:Bs)(T:List Tk)(b n:Nat)(r:Tr.PT×Nat)(e:Ending)(w':World):Prop:=
 ∃v,e=.returned v/\fG K g w w'/\jB w' K g gt s T b n r.2/\dE w' (fun x=> ¬K x) r.1 v
structure VZ(g gt:Nat)(s:Bs)(T:List Tk)(b n:Nat)(F:Nat)(one:Nat->Tr.PT×Nat):Prop where
 run: ∀(args:Array Value) (w:World),(callFunc F args).run aBS w=.ok (.enter F args) w
 calls: ∀(w:World) (K:Nat->Prop) (i:Nat),jB w K g gt s T b n i->Calls aBS F #[pZZ g] w (I7 w K g gt s T b n (one i))
theorem dE.form (h:dE w F p v): ∃t q,v=.iface t (pZZ q):=by
 obtain⟨t,q,_,e,_⟩:=h.from_;exact⟨t,q,e⟩
theorem jB.old {s:Bs}{T:List Tk}(R:jB w K g gt s T b n i):jB w (Old w) g gt s T b n i:=⟨R.rs.mono R.dL,Old.WK w,R.hi,R.hb⟩
theorem jB.dH {w':World}{K':Nat->Prop}{s:Bs}{T:List Tk}{i' n':Nat}(R:jB w K g gt s T b n i)(R':jB w' K' g gt s T b n' i')(ha:fG K g w w'):jB w' K g gt s T b n' i':=
 ⟨⟨R'.rs.rd,R.rs.tr.cZ ha⟩,R.dL.after ha.size,R'.hi,R'.hb⟩
theorem dE.dH {w':World}(h:dE w' (fun x=> ¬Old w x) p v)(hK:In K w):dE w' (fun x=> ¬K x) p v:=
 dE.keep (aBT _) (fun _ hF _=>⟨rfl,fun hk=>hF (hK _ hk)⟩) p v h
theorem IL{s:Bs}{T:List Tk}(X:iN s T)(R:jB w K g gt s T b n i)(hp:dE w (fun x=> ¬K x) p v){F:Nat}{one:Nat->Tr.PT×Nat}(ho:VZ g gt s T b n F one):
  Calls aBS 246 #[pZZ g,v,.func (.func F) #[pZZ g] #[]] w (I7 w K g gt s T b n (Tr.iA s T b one (p,i))):=by
 obtain⟨i0,ji,iW,jz1,iV⟩:=info_parts qF;have har:=IP R.dL 10 hp;have hrun:=ho.run;have hT:=X.hT;have HP:aC (Tr.iA s T b one (p,i)=(.branch 10 p.from_ ((Tr.thn ([p],i) (Tr.aK s T b)).1++[(one (Tr.thn ([p],i) (Tr.aK s T b)).2).1]),(one (Tr.thn ([p],i) (Tr.aK s T b)).2).2)):=rfl;have hta:=Tr.nD.thn (i:=i) (c:=1) (st:=([p],i)) ⟨aBT _,R.hi,by simp⟩ (Tr.gD s T b);rw[HP.o];clear HP;generalize p.from_=fr at *
 go_enter func246,ntmps246
 go_wp2_with fail;refine har.mono ?_;clear har;rintro e w1 ⟨h,rfl,hd,hhs,hb⟩;have hA:=Kept.cZ (Kept.below hd R.dL) g;have R:=R.below hd;clear hd;have htk:=yE X R hb (by simp);generalize Tr.thn ([p],i) (Tr.aK s T b)=st at *;obtain⟨pts,i2⟩:=st;have hpl:pts.length<=10000000:=by have:=hta.2.2;have:=hta.2.1;dsimp only at *;omega
 go_wp2_with fail;refine htk.mono ?_;clear htk hb R hp;intro e w2 h2;obtain⟨rfl,hA2,R,A,c,vs,hb⟩:=h2;have hA:=hA.trans hA2;dsimp only at R hb;clear hA2 hta;go_upto_region 3 with fail;refine aL 11 (fun w':World=>w'.cell? ⟨h,1,none⟩=some (.slice A pts.length c)) ?_;have hd:Below w2.heap.size w2 w2.drew:=(aBU _ _).drew;have hA:=hA.trans (Kept.cZ (Kept.below hd R.dL) g);have R:=R.drew;have hb:=hb.below hd;clear hd;generalize w2.drew=w3 at *;have o1:=hb.blk.cell 1;simp at o1;have hS0:(fun w':World=>w'.cell? ⟨h,1,none⟩=some (.slice A pts.length c)) w3:=o1
 iterate 6 refine aO 0 hS0 ?_
 clear hS0;refine aA 6 fun C hC=> ?_
 go_simp
 ((with_reducible refine(ho.calls _ _ _ R.old).mono ?_))
 intro e w4 h4;obtain⟨vp,rfl,nJ,R4,tH⟩:=h4;obtain⟨tp,qp,rfl⟩:=tH.form;have hp:dE w4 (fun x=> ¬K x/\x≠h/\some x≠(aBX A pts.length c).ownBlock) _ (.iface tp (pZZ qp)):=dE.keep (aBT _) (fun x hF _=>⟨rfl,fun hk=>hF (R.dL _ hk),fun e=>hF (e▸hb.blk.lt),fun e=>hF (hb.kF _ e.symm)⟩) _ _ tH;have hA:=hA.trans (nJ.old R.dL);have hb:=hb.cZ nJ R.ng (fun _ hx=>hx);have R:=R.dH R4 (nJ.old R.dL);have o1:w4.cell? ⟨h,1,none⟩=some (.slice A pts.length c):=by have:=hb.blk.cell 1;simpa using this
 refine hC.out _ _ (fun _=>o1) ?_;clear hC C nJ R4 tH;generalize(one i2).1=pt at *;generalize(one i2).2=i3 at *;refine aA 7 fun C hC=> ?_
 go_simp;refine hC.out _ _ (fun _=>(aJ _ _ _ _ hb.blk.lt).trans o1) ?_;clear hC C;refine aA 8 fun C hC=> ?_
 refine step_append_lies _ (by rfl) _ _ _ (by rfl) 0 122 i0 _ 1 16 underlying119 ji iW jz1 iV rfl (by omega) (.slice A pts.length c) pts.length vs (by rfl) (hb.own.alloc (.cells #[.iface tp (pZZ qp)] 122)) ⟨w4.heap.size,0,none⟩ 1 1 [.iface tp (pZZ qp)] (by rfl) (by rfl) (aCK (heap_alloc_new w4 _)) (by simp[aCA]) (by omega) (by unfold maxLen;omega) (by omega) (aBZ _) (w4.heap.size+1) (by simp) ?_;intro gg cap' w5 hown5 hgrow hat lD;have kX:=hb.push R.dL hp hown5 hgrow hat;have hg5:=(hb.blk.alloc (.cells #[.iface tp (pZZ qp)] 122)).grown hgrow hb.jP;have b1:=hg5.cell 1;have bf:=hg5.frozen 1;simp at b1;refine hC.out _ _ (fun _=>b1) ?_;clear hC C;refine aA 9 fun C hC=> ?_
 go_simp;refine hC.out _ _ (fun _=>b1) ?_;clear hC C;refine aA 10 fun C hC=> ?_
 go_simp;refine hC.out _ _ (fun _=>b1) ?_;clear hC C;refine aA 11 fun C hC=> ?_
 go_simp;refine hC.out _ _ (fun h=>absurd rfl h) ?_;clear hC C;refine aR ?_;have hB:=kX.1;have R:=R.kept kX.2;have hA:=hA.trans (kX.2.cZ g);clear hb hp o1 hown5 hgrow hat lD kX hg5 b1 bf;generalize(aCI _ _ (.slice (some ⟨gg,0,none⟩) (pts.length+1) cap'))=w6 at *;go_wp2_with fail;go_ret;exact⟨_,rfl,hA,R,hB.part⟩
theorem Pz{s:Bs}{T:List Tk}(X:iN s T)(R:jB w K g gt s T b n i){F:Nat}{one:Nat->Tr.PT×Nat}(ho:VZ g gt s T b n F one)(hg:Tr.Goes T one)(A:Nat)(c:Nat)(l:List Bs)(hAK:K A)(hAg:A≠g)(hA:Rd w w.heap.size 1 (some ⟨A,0,none⟩) l.length (mR l))(hl:l.length<=1000):
  Calls aBS 254 #[pZZ g,.func (.func F) #[pZZ g] #[],.slice (some ⟨A,0,none⟩) l.length c] w (I7 w K g gt s T b n (Tr.rowP s T b one l i)):=by
 have hrun:=ho.run;have hT:=X.hT;have H1:=ho.calls w K i R;have Yj:=hg i R.hi;generalize hr:Tr.rowP s T b one l i=r;have Hr:aC (Tr.iX s T b one l (T.length+1) (one i)=r):=hr;clear hr
 go_enter func254,ntmps254
 go_wp2_with fail;refine H1.mono ?_;clear H1;intro e w1 h1;obtain⟨v,rfl,hA1,R1,hp⟩:=h1;generalize one i=q1 at *;have hA0:aC (∀w':World,fG K g w w'->Rd w' w'.heap.size 1 (some ⟨A,0,none⟩) l.length (mR l)):=fun w' ha=>⟨hA.1,fun hn=>by obtain⟨bq,oq,e,hlt,hc⟩:=hA.2 hn;injection e with e;injection e with e1 e2;subst e1 e2;exact⟨A,0,rfl,by have:=ha.size;omega,fun j u hu=>(World.cell?_of_block (a:=⟨A,0+j,none⟩) (ha.sI A hAK hAg)).trans (hc j u hu)⟩⟩
 clear hA hAK hAg;go_wp2_with fail
 go_loopg [7] (T.length-q1.2) (fun q v wr=> ∃x:Tr.PT×Nat,q1.2<=x.2/\T.length-x.2<=q/\aC (Tr.iX s T b one l (T.length+1) x=r)/\fG K g w wr/\jB wr K g gt s T b n x.2/\dE wr (fun x=> ¬K x) x.1 v)
 case atStart=>exact⟨q1,aBT _,aBT _,Hr,hA1,R1,hp⟩
 case round=>
  clear hA1 R1 hp Hr;obtain⟨x,hx1,hq,Hx,hA,R,hp⟩:=hrel;have hi:=R.hi;have his:=Eb X R _ c l (hA0.out wr hA) hl;have jA:aC (Tr.aW s T l x.2=true->Tr.iX s T b one l (T.length+1) (Tr.iA s T b one x)=r):=fun h=>(by rw[<-Tr.FB s T b hg l x R.hi h];exact Hx.o);have fU:aC (Tr.aW s T l x.2=false->x=r):=fun h=>(by rw[<-Tr.EZ s T b one l x h];exact Hx.o);have PW:aC (Tr.aW s T l x.2=true->x.2<(Tr.iA s T b one x).2):=fun h=>Tr.NS s T b hg x R.hi (Tr.is_lt s T h)
  generalize Tr.aW s T l x.2=vb at *;go_wp2_with fail;refine his.mono ?_;clear his;rintro e w2 ⟨rfl,hd⟩;have hA:=hA.trans (Kept.cZ (Kept.below hd R.dL) g);have hp:dE w2 (fun x=> ¬K x) x.1 u7:=dE.keep hd.size (fun y hF hl=>⟨hd.block y hl,hF⟩) _ _ hp;have R:=R.below hd;clear hd;cases vb with
  |true=>
   have hst:=jA.o rfl;have hgt:=PW.o rfl;have kC:=aB hst;clear jA fU PW Hx hst;have hbw:=IL X R hp ho;go_wp2_with fail;refine hbw.mono ?_;clear hbw R hp;intro e w3 h3;obtain⟨v3,rfl,hA3,R3,hp3⟩:=h3;have nJ:=hA.trans hA3;clear hA hA3;go_wp2_with fail
   go_roundg (T.length-(Tr.iA s T b one x).2)
   case rel=>exact⟨Tr.iA s T b one x,by omega,aBT _,kC,nJ,R3,hp3⟩
   case measure=>have h2:(Tr.iA s T b one x).2<=T.length:=R3.hi;omega
  |false=>have hst:=fU.o rfl;clear jA fU PW Hx;subst hst;go_wp2_with fail;go_ret;exact⟨_,rfl,hA,R,hp⟩
theorem Rc(w:World)(l:List Bs)(t:TypeId):Rd (w.alloc (.cells (mR l).toArray t)) (w.alloc (.cells (mR l).toArray t)).heap.size 1 (some ⟨w.heap.size,0,none⟩) l.length (mR l):=
 ⟨by rw[XE,Nat.mul_one],fun _=>⟨w.heap.size,0,rfl,by simp,fun j u hu=>by rw[Nat.zero_add];have h:=(aV.new w t (mR l).toArray).cell j;rw[h];simpa using hu⟩⟩
theorem rT{s:Bs}{T:List Tk}(X:iN s T)(R:jB w K g gt s T b n i)(l:List Bs)(hl:l.length<=1000)(c:Nat):
  Calls aBS 150 #[pZZ g,.slice (some ⟨w.heap.size,0,none⟩) l.length c] (w.alloc (.cells (mR l).toArray 9)) fun e w'=>e=.returned (.bool (Tr.aW s T l i))/\Below w.heap.size w w':=by
 have hd:=nR w (.cells (mR l).toArray 9);exact(Eb X (R.below hd) _ c l (Rc w l _) hl).mono fun e w' ⟨h1,h2⟩=>⟨h1,hd.trans (h2.mono hd.size)⟩
theorem Gi{s:Bs}{T:List Tk}{kind at_:Nat}(X:iN s T)(R:jB w K g gt s T b n i)(hb:Br w K h kind at_ pts)(word:Bs)(hl:pts.length<=50000000):
  Calls aBS 200 #[pZZ g,pZZ h,.string ⟨word.toArray⟩] w (I6 w K g gt h kind at_ s T b n (Tr.thn (pts,i) (Tr.aN s T b word))):=by
 have his:Calls aBS 150 #[pZZ g,.slice (some ⟨w.heap.size,0,none⟩) 1 1] (w.alloc (.cells #[.string ⟨word.toArray⟩] 9)) fun e w'=>e=.returned (.bool (Tr.aW s T [word] i))/\Below w.heap.size w w':=rT X R [word] (by simp) 1
 have HT:aC (Tr.aW s T [word] i=true->Tr.thn (pts,i) (Tr.aN s T b word)=Tr.thn (pts,i) (Tr.aK s T b)):=fun h=>by unfold Tr.thn;dsimp only;unfold Tr.aN;rw[if_pos h]
 have HF:aC (Tr.aW s T [word] i=false->Tr.thn (pts,i) (Tr.aN s T b word)=Tr.thn (pts,i) (Tr.nU s T b word)):=fun h=>by unfold Tr.thn;dsimp only;unfold Tr.aN;rw[if_neg (by rw[h];simp)]
 generalize Tr.thn (pts,i) (Tr.aN s T b word)=r at *
 go_enter func200,ntmps200
 go_wp2_with fail;refine his.mono ?_;clear his;rintro e w2 ⟨rfl,hd⟩;have hA:=Kept.cZ (Kept.below hd R.dL) g;have R:=R.below hd;have hb:=hb.below hd;clear hd;generalize Tr.aW s T [word] i=v at *;cases v with
 |true=>have HR:=aB (HT.o rfl);clear HT HF;have htk:=yE X R hb hl;go_wp2_with fail;refine htk.mono ?_;clear htk hb R;intro e w3 h3;obtain⟨rfl,hA3,R3,hB3⟩:=h3;go_wp2_with fail;go_end0;rw[HR.o];exact⟨rfl,hA.trans hA3,R3,hB3⟩
 |false=>have HR:=aB (HF.o rfl);clear HT HF;have htk:=vI X R hb word (by omega);go_wp2_with fail;refine htk.mono ?_;clear htk hb R;intro e w3 h3;obtain⟨rfl,hA3,R3,hB3⟩:=h3;go_wp2_with fail;go_end0;rw[HR.o];exact⟨rfl,hA.trans hA3,R3,hB3⟩
theorem U6{s:Bs}{T:List Tk}{kind at_:Nat}(X:iN s T)(R:jB w K g gt s T b n i)(hb:Br w K h kind at_ pts)(hl:pts.length<=50000000):
  Calls aBS 201 #[pZZ g,pZZ h] w (I6 w K g gt h kind at_ s T b n (Tr.thn (pts,i) (Tr.aQ s T b))):=by
 have his:=V6 X R 3;have HT:aC ((Tr.bR T (Tr.aH T i)==3)=true->Tr.thn (pts,i) (Tr.aQ s T b)=Tr.thn (pts,i) (Tr.aK s T b)):=fun h=>by unfold Tr.thn;dsimp only;unfold Tr.aQ;rw[if_pos h]
 have HF:aC ((Tr.bR T (Tr.aH T i)==3)=false->Tr.thn (pts,i) (Tr.aQ s T b)=Tr.thn (pts,i) (Tr.nU s T b Tr.lY)):=fun h=>by unfold Tr.thn;dsimp only;unfold Tr.aQ;rw[if_neg (by rw[h];simp)]
 generalize Tr.thn (pts,i) (Tr.aQ s T b)=r at *
 go_enter func201,ntmps201
 go_wp2_with fail;refine his.mono ?_;clear his;rintro e w2 ⟨rfl,hd⟩;have hA:=Kept.cZ (Kept.below hd R.dL) g;have R:=R.below hd;have hb:=hb.below hd;clear hd;generalize(Tr.bR T (Tr.aH T i)==3)=v at *;cases v with
 |true=>have HR:=aB (HT.o rfl);clear HT HF;have htk:=yE X R hb hl;go_wp2_with fail;refine htk.mono ?_;clear htk hb R;intro e w3 h3;obtain⟨rfl,hA3,R3,hB3⟩:=h3;go_wp2_with fail;go_end0;rw[HR.o];exact⟨rfl,hA.trans hA3,R3,hB3⟩
 |false=>have HR:=aB (HF.o rfl);clear HT HF;have htk:=vI X R hb Tr.lY (by omega);go_wp2_with fail;refine htk.mono ?_;clear htk hb R;intro e w3 h3;obtain⟨rfl,hA3,R3,hB3⟩:=h3;go_wp2_with fail;go_end0;rw[HR.o];exact⟨rfl,hA.trans hA3,R3,hB3⟩
end Go.Proofs.YtcjjfeephaddcaaGreatDoor
