import Derived.Test.YtcjjfeephaddcaaGreatDoorJaq
set_option linter.all false
open Go.Act renaming put->aEB
open Go.Proofs.Tryz renaming prog->aBS
open Go.Region renaming wanted->aEA
open Go.RowKit.Below renaming refl->aBU
open Go.Value renaming oneCell'->aCA
open Go.World renaming setCell->aCI,news_of_block->aCK,cell?_of_block->aCM,ownsRow_nil->aCW,size_alloc->aDD,alloc->aEV
open List renaming length_append->aBW,getElem?_eq_getElem->aBY,getElem?_eq_some_iff->aCD,length_map->aCE,mem_singleton->aCH,mem_cons->aCJ,take_succ_eq_append_getElem->aCP,getElem_mem->aCR,length_take->aCY,mem_of_getElem?->aDC,map_append->aDI,getElem?_append_left->aDM,getElem?_map->aDO,getElem_of_mem->aDT,length_filter_le->aED,getElem?_append_right->aEE,mem_nil_iff->aEO
open Nat renaming le_refl->aBT,le_trans->aBV,zero_le->aBZ,lt_of_lt_of_le->aCF
open Or renaming inl->aDL
set_option maxHeartbeats 64000000
set_option maxRecDepth 100000
open Go.Proofs.Tryz
namespace Go.Proofs.YtcjjfeephaddcaaGreatDoor
open Go.RowKit Go.Maps
variable{w w' w0:World}{B B0 c cd ci g mb n pg:Nat}{tv v:Value}{xs:List Value}{A Ad Ai:Option Addr}{T:List TypeId}{P:Nat->Prop}{GG:List (List Nat)}{ms:List Nat}{ss:List (Option Addr×Nat×Nat)}
theorem aD.row {size:Nat}{t:TypeId}(h:w.ownsRow B t size v n xs)(hg:w.grownBy w' v.ownBlock):aD [t] w w':=aD.grown hg fun g cs t' fr e hk=>by
 obtain⟨cs',fr',h3⟩:=eU h g e;rw[hk] at h3;injection h3 with h3;injection h3 with _ h3 _;simp[h3]
section
variable{P:Program}{w:World}
theorem iU{ops:Array Oper}{o:Oper}{a:Act}{K:Act->World->Prop}{Q:Exit->Act->World->Prop}{E:Prop}(hgd:o.guard=none)(s x:Operand)(t:TypeId)
  (ho:o.op=.call {callee:=.builtin .append,args:=#[s,x],argTypes:=#[t,t]})
  (base:Nat) (e:TypeId) (i:TypeInfo) (z:Value) (size bytes:Nat) (ht:P.underlying t=some (.slice e)) (hi:P.info? e=some i) (hz:i.zero=some z)
  (hsize:i.size=size) (hby:i.bytes=bytes) (hzs:z.cells.size=size) (hsz:0<size)
  (v:Value) (n:Nat) (xs:List Value) (hs:a.eval s=v) (hown:w.ownsRow base e size v n xs)
  (ad:Addr) (m c:Nat) (news:List Value) (hx:a.eval x=.slice (some ad) m c) (hl:news.length=m*size) (hnews: ∀j u,news[j]? =some u->w.cell? (ad.add j)=some u) (h1: ∀u∈news,u.oneCell'=true)
  (h63:n+m<=maxLen) (hbytes:(n+m)*bytes<=140737488355328) (hbase:base<=w.heap.size)
  (h: ∀v' w',w'.ownsRow base e size v' (n+m) (xs++news)->w.grownBy w' v.ownBlock->K (a.put o.dst v') w'):
  if aEA o (yielded ops a.tmps)=true then Oper.wp P o a w K Q else E:=by
 have hw:aEA o (yielded ops a.tmps)=true:=by simp[aEA,hgd]
 rw[if_pos hw];exact wp_append_own w s x t ho base e i z size bytes ht hi hz hsize hby hzs hsz v n xs hs hown ad m c news hx hl hnews h1 h63 hbytes hbase fun v' w' h2 h3 _=>h v' w' h2 h3
end
structure Yk(w:World)(B:Nat)(P:Nat->Prop)(l:List Sc.It)(G:List Nat)(m:Nat)(s:Option Addr×Nat×Nat):Prop where
 gl:G.length=l.length
 its: ∀(k:Nat) (x:Sc.It) (g:Nat),l[k]? =some x->G[k]? =some g->WA w P (fun b=>B<=b) x (Sc.dW l k) g
 row:xU w 229 (fun b=>B<=b) s.1 (G.map bO)
 len:s.2.1=l.length
 map: ∃D,w.ownsMap aBS 9 kN m l.length D/\tL D l G
 mB:B<=m
section
variable{w w':World}{B B':Nat}{P:Nat->Prop}{l:List Sc.It}{G:List Nat}{m:Nat}{s:Option Addr×Nat×Nat}
theorem JH.done (h:JH w B' P l G G m A c)(hB:B<=B'):Yk w B P l G m (A,G.length,c):=by
 refine⟨h.gl,fun k x g hx hg=>(h.its k x g hx hg).mono fun b hb=>aBV hB hb,?_,h.gl,h.map,aBV hB h.mB⟩;have hrow:=h.row;have hl:G.length=(G.map bO).length:=by rw[aCE]
 obtain⟨_,h1,h2⟩:=bY hrow (fun b=>B<=b) fun b hb=>aBV hB hb
 exact⟨h1,fun br o e hn=>h2 br o e (by rw[hl];exact hn)⟩
theorem Yk.zO (h:Yk w B P l G m s)(hd:Below B0 w w')(hP: ∀b,P b->b<B0)(hk:bQ T w w')(ht:234∉T/\237∉T/\231∉T)(ht2:229∉T):Yk w' B P l G m s:=by
 obtain⟨D,h1,h2⟩:=h.map;refine⟨h.gl,fun k x g hx hg=>(h.its k x g hx hg).aG hd hP hd.size hk.toC ht,h.row.aG hd.size hk.toC ht2,h.len,⟨D,dX h1 (hk m h1.lt fun cs t fr e=>absurd rfl (nV h1 e)),h2⟩,h.mB⟩
theorem Yk.below (h:Yk w B P l G m s)(hd:Below w.heap.size w w'):Yk w' B P l G m s:=by
 obtain⟨D,h1,h2⟩:=h.map;exact⟨h.gl,fun k x g hx hg=>(h.its k x g hx hg).below hd,h.row.aG hd.size (aD.below (T:=[]) hd) (by simp),h.len,⟨D,dX h1 (hd.block m h1.lt),h2⟩,h.mB⟩
end
def K4(s:Option Addr×Nat×Nat):Value:=.slice s.1 s.2.1 s.2.2
structure Mr(w0 w:World)(B:Nat)(P:Nat->Prop)(pg mb:Nat)(fv tv:Value)(LL:List (List Sc.It))(GG:List (List Nat))(ms:List Nat)(ss:List (Option Addr×Nat×Nat))(Ai:Option Addr)(ci:Nat)(Ad:Option Addr)(cd:Nat):Prop where
 blk:aV w pg 86 #[fv,tv,.slice Ai LL.length ci,nZZ,.slice Ad LL.length cd,.map (some mb)]
 ri:w.ownsRow B 227 1 (.slice Ai LL.length ci) LL.length (ss.map K4)
 rd:w.ownsRow B 228 1 (.slice Ad LL.length cd) LL.length (ms.map fun m=>.map (some m))
 pm:w.ownsMap (H:=Unit) aBS 325 (plainElem aBS 3) mb 0 (.map [])
 gl:GG.length=LL.length
 ml:ms.length=LL.length
 sl:ss.length=LL.length
 nd:GG.flatten.Nodup
 fi: ∀(f:Nat) (l:List Sc.It) (G:List Nat) (m:Nat) (s:Option Addr×Nat×Nat),LL[f]? =some l->GG[f]? =some G->ms[f]? =some m->ss[f]? =some s->Yk w B P l G m s
 VR:Below w0.heap.size w0 w
 sz:B<=w.heap.size
theorem Mr.below {fv:Value}{LL:List (List Sc.It)}(h:Mr w0 w B P pg mb fv tv LL GG ms ss Ai ci Ad cd)(hd:Below w.heap.size w w'):Mr w0 w' B P pg mb fv tv LL GG ms ss Ai ci Ad cd:=
 ⟨h.blk.below hd h.blk.lt,aM h.ri fun b hb=>hd.block b (h.ri.lt b hb).2,aM h.rd fun b hb=>hd.block b (h.rd.lt b hb).2,dX h.pm (hd.block mb h.pm.lt),h.gl,h.ml,h.sl,h.nd,fun f l G m s h1 h2 h3 h4=>(h.fi f l G m s h1 h2 h3 h4).below hd,h.VR.trans (hd.mono h.VR.size),aBV h.sz hd.size⟩
theorem vX.under {F:Nat->Prop}{gt d:Nat}{T:List Tk}{ks:List Tr.Kd}{ts:List Tr.PT}(h:vX w F gt d A c T ks ts)(hd:Below w.heap.size w w'):vX w' F gt d A c T ks ts:=by
 obtain⟨Av,cv,At,ct,vs,us,hB,h1,h2,h3,h4,h5,h6⟩:=h.ex;have hk: ∀b,F b->b<w.heap.size->w'.heap[b]? =w.heap[b]? /\F b:=fun b hF hl=>⟨hd.block b hl,hF⟩
 exact⟨⟨Av,cv,At,ct,vs,us,hB.below hd hB.lt,h1,h2,h3.keep hd.size hk,h4.below hd,h5.keep hd.size hk,eF.below h6 hd⟩⟩
theorem JH.zO {l:List Sc.It}{G Gr:List Nat}{m:Nat}(h:JH w B P l G Gr m A c)(hd:Below B0 w w')(hP: ∀b,P b->b<B0)(hk:bQ T w w')(ht:234∉T/\237∉T/\231∉T)(ht2:229∉T):JH w' B P l G Gr m A c:=by
 obtain⟨D,h1,h2⟩:=h.map;refine⟨h.gl,h.nd,fun k x g hx hg=>(h.its k x g hx hg).aG hd hP hd.size hk.toC ht,aM h.row fun b hb=>hk b (h.row.lt b hb).2 fun cs t fr e=> ?_,⟨D,dX h1 (hk m h1.lt fun cs t fr e=>absurd rfl (nV h1 e)),h2⟩,h.mB⟩;obtain⟨cs',fr',h3⟩:=eU h.row b hb;rw[e] at h3;injection h3 with h3;injection h3 with _ h3 _;rw[h3];exact ht2
structure Mid(w0 u:World)(B n0:Nat)(P:Nat->Prop)(pg mb:Nat)(fv tv:Value)(LL:List (List Sc.It))(GG:List (List Nat))(ms:List Nat)(ss:List (Option Addr×Nat×Nat))(Yo Yp:Value)(l:List Sc.It)(G:List Nat)(Ar:Option Addr)(cr:Nat)(vi:Value)(ni:Nat)(xi:List Value)(vd:Value)(nd:Nat)(xd:List Value):Prop where
 blk:aV u pg 86 #[fv,tv,Yo,nZZ,Yp,.map (some mb)]
 ri:u.ownsRow B 227 1 vi ni xi
 rd:u.ownsRow B 228 1 vd nd xd
 pm:u.ownsMap (H:=Unit) aBS 325 (plainElem aBS 3) mb 0 (.map [])
 fi: ∀(f:Nat) (l:List Sc.It) (G:List Nat) (m:Nat) (s:Option Addr×Nat×Nat),LL[f]? =some l->GG[f]? =some G->ms[f]? =some m->ss[f]? =some s->Yk u B P l G m s
 fn:JH u n0 P l G G n0 Ar cr
 VR:Below w0.heap.size w0 u
 sz:B<=u.heap.size
section
variable{w0 u u':World}{B n0:Nat}{P:Nat->Prop}{pg mb:Nat}{fv tv:Value}{LL:List (List Sc.It)}{GG:List (List Nat)}{ms:List Nat}{ss:List (Option Addr×Nat×Nat)}{Yo Yp:Value}{l:List Sc.It}{G:List Nat}{Ar Ai Ad:Option Addr}{cr ci cd:Nat}{vi vd:Value}{ni nd:Nat}{xi xd:List Value}
theorem Mr.few (h:Mr w0 u B P pg mb fv tv LL GG ms ss Ai ci Ad cd)(hg:g∈GG.flatten):g<u.heap.size:=by
 obtain⟨G,hG,hgG⟩:=List.mem_flatten.1 hg;obtain⟨f,hf,e⟩:=aDT hG;have hf':f<LL.length:=by have:=h.gl;omega
 have hm:f<ms.length:=by rw[h.ml];exact hf'
 have hs:f<ss.length:=by rw[h.sl];exact hf'
 have hF:=h.fi f LL[f] G ms[f] ss[f] (aBY hf') (by rw[<-e];exact aBY hf) (aBY hm) (aBY hs);obtain⟨k,hk,e2⟩:=aDT hgG;have hk':k<LL[f].length:=by rw[<-hF.gl];exact hk
 obtain⟨_,_,pb,nv,A,c,ev,mv,me,av,hB,_⟩:=hF.its k LL[f][k] g (aBY hk') (by rw[<-e2];exact aBY hk);exact hB.lt
theorem JH.ge {Gr:List Nat}{m:Nat}(h:JH u B P l G Gr m A c)(hg:g∈G):B<=g:=by
 obtain⟨k,hk,e⟩:=aDT hg;exact(h.its k (l[k]'(by rw[<-h.gl];exact hk)) g (aBY _) (by rw[<-e];exact aBY _)).1
theorem Mid.below (h:Mid w0 u B n0 P pg mb fv tv LL GG ms ss Yo Yp l G Ar cr vi ni xi vd nd xd)(hd:Below u.heap.size u u'):Mid w0 u' B n0 P pg mb fv tv LL GG ms ss Yo Yp l G Ar cr vi ni xi vd nd xd:=
 ⟨h.blk.below hd h.blk.lt,aM h.ri fun b hb=>hd.block b (h.ri.lt b hb).2,aM h.rd fun b hb=>hd.block b (h.rd.lt b hb).2,dX h.pm (hd.block mb h.pm.lt),fun f l G m s h1 h2 h3 h4=>(h.fi f l G m s h1 h2 h3 h4).below hd,h.fn.below hd,h.VR.trans (hd.mono h.VR.size),aBV h.sz hd.size⟩
theorem bQ.row {size:Nat}{t:TypeId}(h:w.ownsRow B t size v n xs)(hg:w.grownBy w' v.ownBlock):bQ [t] w w':=bQ.grown hg fun g e=>by
 obtain⟨cs',fr',h3⟩:=eU h g e;exact⟨cs',t,fr',h3,aCH.2 rfl⟩
theorem bI{size:Nat}{t:TypeId}(h:w.ownsRow B t size v n xs)(hk:bQ T w w')(ht:t∉T):w'.ownsRow B t size v n xs:=aM h fun b hb=>hk b (h.lt b hb).2 fun cs t' fr e=>by
 obtain⟨cs',fr',h3⟩:=eU h b hb;rw[e] at h3;injection h3 with h3;injection h3 with _ h3 _;rw[h3];exact ht
theorem nP{size:Nat}{t:TypeId}(h:w.ownsRow B t size v n xs)(hg:w.grownBy w' v.ownBlock)(hB:B0<=B)(hs:B0<=w.heap.size):Below B0 w w':=
 (aBU _ _).grown hg hs fun g hg=>aBV hB (h.lt g hg).1
theorem Mid.YD (h:Mid w0 u B n0 P pg mb fv tv LL GG ms ss Yo Yp l G Ar cr vi ni xi vd nd xd)(hP: ∀b,P b->b<w0.heap.size)(hB:w0.heap.size<=B){v':Value}{n':Nat}{x':List Value}
  (hown:u'.ownsRow B 227 1 v' n' x') (hg:u.grownBy u' vi.ownBlock):Mid w0 u' B n0 P pg mb fv tv LL GG ms ss Yo Yp l G Ar cr v' n' x' vd nd xd:=by
 have hk:=bQ.row h.ri hg;have hd:Below w0.heap.size u u':=nP h.ri hg hB h.VR.size;exact⟨h.blk.aG hk.toC (by decide),hown,bI h.rd hk (by decide),dX h.pm (hk mb h.pm.lt fun cs t fr e=>absurd rfl (nV h.pm e)),fun f l G m s h1 h2 h3 h4=>(h.fi f l G m s h1 h2 h3 h4).zO hd hP hk (by decide) (by decide),h.fn.zO hd hP hk (by decide) (by decide),h.VR.trans hd,aBV h.sz hg.size⟩
theorem Mid.Qj (h:Mid w0 u B n0 P pg mb fv tv LL GG ms ss Yo Yp l G Ar cr vi ni xi vd nd xd)(hP: ∀b,P b->b<w0.heap.size)(hB:w0.heap.size<=B){v':Value}{n':Nat}{x':List Value}
  (hown:u'.ownsRow B 228 1 v' n' x') (hg:u.grownBy u' vd.ownBlock):Mid w0 u' B n0 P pg mb fv tv LL GG ms ss Yo Yp l G Ar cr vi ni xi v' n' x':=by
 have hk:=bQ.row h.rd hg;have hd:Below w0.heap.size u u':=nP h.rd hg hB h.VR.size;exact⟨h.blk.aG hk.toC (by decide),bI h.ri hk (by decide),hown,dX h.pm (hk mb h.pm.lt fun cs t fr e=>absurd rfl (nV h.pm e)),fun f l G m s h1 h2 h3 h4=>(h.fi f l G m s h1 h2 h3 h4).zO hd hP hk (by decide) (by decide),h.fn.zO hd hP hk (by decide) (by decide),h.VR.trans hd,aBV h.sz hg.size⟩
theorem Mid.done (h:Mid w0 u B n0 P pg mb fv tv LL GG ms ss Yo Yp l G Ar cr vi ni xi vd nd xd)(hP: ∀b,P b->b<w0.heap.size)(_hB:w0.heap.size<=B)(hp:w0.heap.size<=pg)(_hpB:pg<B)(hBn:B<=n0)(ei:vi=.slice Ai (LL.length+1) ci)(ed:vd=.slice Ad (LL.length+1) cd)(eni:ni=LL.length+1)(end':nd=LL.length+1)
  (exi:xi=(ss++[(Ar,G.length,cr)]).map K4) (exd:xd=(ms++[n0]).map fun m=>.map (some m)) (gl:GG.length=LL.length) (ml:ms.length=LL.length) (sl:ss.length=LL.length) (hnd:GG.flatten.Nodup) (hold: ∀g∈GG.flatten,g<n0) (hnew: ∀g∈G,n0<=g):
  Mr w0 ((u.setCell ⟨pg,2,none⟩ vi).setCell ⟨pg,4,none⟩ vd) B P pg mb fv tv (LL++[l]) (GG++[G]) (ms++[n0]) (ss++[(Ar,G.length,cr)]) Ai ci Ad cd:=by
 subst ei ed eni end' exi exd;have hk1:bQ [86] u (u.setCell ⟨pg,2,none⟩ (.slice Ai (LL.length+1) ci)):=bQ.grown (fF u pg 2 _) fun g e=>by injection e with e;subst e;exact⟨_,_,_,h.blk,aCH.2 rfl⟩
 have hB1:=h.blk.bD 2 (.slice Ai (LL.length+1) ci);have hk2:bQ [86] (u.setCell ⟨pg,2,none⟩ (.slice Ai (LL.length+1) ci)) ((u.setCell ⟨pg,2,none⟩ (.slice Ai (LL.length+1) ci)).setCell ⟨pg,4,none⟩ (.slice Ad (LL.length+1) cd)):=bQ.grown (fF _ pg 4 _) fun g e=>by injection e with e;subst e;exact⟨_,_,_,hB1,aCH.2 rfl⟩
 have hs1:=(fF u pg 2 (.slice Ai (LL.length+1) ci)).size;have hs2:=(fF (u.setCell ⟨pg,2,none⟩ (.slice Ai (LL.length+1) ci)) pg 4 (.slice Ad (LL.length+1) cd)).size;have hk:=hk1.trans hs1 hk2;have hd:Below w0.heap.size u ((u.setCell ⟨pg,2,none⟩ (.slice Ai (LL.length+1) ci)).setCell ⟨pg,4,none⟩ (.slice Ad (LL.length+1) cd)):=((aBU _ _).setCell (p:=⟨pg,2,none⟩) hp _).setCell (p:=⟨pg,4,none⟩) hp _;have hB2:=hB1.bD 4 (.slice Ad (LL.length+1) cd);simp only[List.setIfInBounds_toArray,List.set_cons_zero,List.set_cons_succ] at hB2;have hfn:=h.fn.zO hd hP hk (by decide) (by decide);generalize(u.setCell _ _).setCell _ _=w' at *;refine⟨by rw[aBW];exact hB2,by rw[aBW];exact bI h.ri hk (by decide),by rw[aBW];exact bI h.rd hk (by decide),dX h.pm (hk mb h.pm.lt fun cs t fr e=>absurd rfl (nV h.pm e)),by simp[gl],by simp[ml],by simp[sl],?_,?_,h.VR.trans hd,aBV h.sz (aBV hs1 hs2)⟩
 ·rw[List.flatten_append,List.flatten_singleton];exact List.nodup_append.2 ⟨hnd,h.fn.nd,fun a ha b hb e=>by have:=hold a ha;have:=hnew b hb;omega⟩
 ·intro f l' G' m s h1 h2 h3 h4;rcases Nat.lt_or_ge f LL.length with hf|hf
  ·rw[aDM hf] at h1;rw[aDM (by omega)] at h2 h3 h4;exact(h.fi f l' G' m s h1 h2 h3 h4).zO hd hP hk (by decide) (by decide)
  ·have hf':=(aCD.1 h1).1;simp at hf';obtain rfl:f=LL.length:=(by omega);rw[aEE (aBT _)] at h1;rw[aEE (by omega)] at h2 h3 h4;simp[gl,ml,sl] at h1 h2 h3 h4;subst h1 h2 h3 h4;exact hfn.done hBn
end
theorem Vj:(aBS.info? 227).map (fun i=>(i.zero,i.size,i.bytes))=some (some (nZZ),1,24):=by kernel_rfl
theorem lh:(aBS.info? 228).map (fun i=>(i.zero,i.size,i.bytes))=some (some (.map none),1,8):=by kernel_rfl
theorem WA.toF2 {F F':Nat->Prop}(hP: ∀b,P b->b<w.heap.size->F' b)(hF: ∀b,F b->b<w.heap.size->F' b){x:Sc.It}{tw:Bool}(h:WA w P F x tw g):Nt w F' x tw g:=by
 obtain⟨h0,hk,pb,nv,A,c,ev,mv,me,av,hB,hp,hn,hc,hr,hty,he,h1,h2,h3⟩:=h;have k1: ∀b,P b->b<w.heap.size->w.heap[b]? =w.heap[b]? /\F' b:=fun b hb hl=>⟨rfl,hP b hb hl⟩
 have k2: ∀b,F b->b<w.heap.size->w.heap[b]? =w.heap[b]? /\F' b:=fun b hb hl=>⟨rfl,hF b hb hl⟩
 exact⟨hF g h0 hB.lt,hk,pb,nv,A,c,ev,mv,me,av,hB,dE.keep (aBT _) k1 _ _ hp,hn.keep k2,hc,hr.keep (aBT _) k2,hty,fun hd=>dE.keep (aBT _) k1 _ _ (he hd),h1.keep k2,h2.keep k2,h3.keep k2⟩
def OfF(P:Nat->Prop)(pg:Nat)(w:World)(b:Nat):Prop:=P b\/(pg+1<=b/\b<w.heap.size)
theorem Mr.ph {w w0:World}{P:Nat->Prop}{pg mb:Nat}{A:Option Addr}{c:Nat}{fs:List Fl}{tv:Value}{KK:List (List Tr.Kd)}{GG:List (List Nat)}{ms:List Nat}{ss:List (Option Addr×Nat×Nat)}{Ai:Option Addr}{ci:Nat}{Ad:Option Addr}{cd:Nat}
  (hO:Mr w w0 (pg+1) P pg mb (.slice A fs.length c) tv (Sc.qB fs KK).items GG ms ss Ai ci Ad cd) (Sl:pg=w.heap.size+1) (hmb:mb=w.heap.size) (hfs:EI w A fs) (hfl:fs.length=KK.length) (OW:fs.length<=1000) (hP: ∀b,P b->b<w.heap.size) (hok: ∀ks∈KK,aAJ ks) (wG:Sc.lL (Sc.qB fs KK)<=100000000):
  Ph w0 (OfF P pg w0) pg mb A c fs Ad cd (Sc.qB fs KK) GG/\IQ w0 w0 pg mb (.slice A fs.length c) tv (.slice Ai (Sc.qB fs KK).items.length ci) (.slice Ad (Sc.qB fs KK).items.length cd) []:=by
 have hil:(Sc.qB fs KK).items.length=KK.length:=by unfold Sc.qB;simp
 have hpl:=hO.blk.lt;have hfiG: ∀(f:Nat) (l:List Sc.It) (G:List Nat),(Sc.qB fs KK).items[f]? =some l->GG[f]? =some G->∃m s,ms[f]? =some m/\ss[f]? =some s/\Yk w0 (pg+1) P l G m s:=fun f l G h1 h2=>by have hf:=(aCD.1 h1).1;have hm:f<ms.length:=(by rw[hO.ml];exact hf);have hs:f<ss.length:=(by rw[hO.sl];exact hf);exact⟨ms[f],ss[f],aBY hm,aBY hs,hO.fi f l G _ _ h1 h2 (aBY hm) (aBY hs)⟩
 refine⟨⟨⟨?_,?_,hfs.below hO.VR,rfl,by rw[hfl,hil],OW,hO.gl,hO.nd,fun f l G h1 h2=> ?_,fun f l h1=> ?_,⟨ms,hO.ml,?_,fun f l G m h1 h2 h3=> ?_⟩⟩,fun b hb=> ?_,fun b o e hn=> ?_,wG⟩,⟨aBT _,fun _ _ _ _=>rfl,⟨rfl,rfl,rfl⟩,⟨none,0,hO.blk,aCW _ _ _ _⟩,⟨_,hO.pm⟩,hO.blk.lt,hO.pm.lt⟩⟩
 ·have:=hO.blk.cell 0;simpa using this
 ·have:=hO.blk.cell 4;simpa using this
 ·obtain⟨m,s,_,_,hF⟩:=hfiG f l G h1 h2;exact⟨hF.gl,fun k x g hx hg=>(hF.its k x g hx hg).toF2 (fun b hb _=>.inl hb) fun b hb hl=>.inr ⟨hb,hl⟩⟩
 ·obtain⟨ks,hks,rfl⟩:=XA h1;have hk:=hok ks (aDC hks);refine⟨?_,fun x hx=> ?_⟩
  ·have:(Sc.bM f ks).length<=ks.length:=(by unfold Sc.bM;rw[aCE];exact aED _ _);have:=hk.len;omega
  ·obtain⟨k,hkl,e⟩:=aDT hx;obtain⟨kd,hkd,hi,rfl⟩:=CS (f:=f) (ks:=ks) (k:=k) (x:=x) (by rw[aBY hkl,e]);have hlow:=LY (n:=f) ((hk.kids kd hkd hi).2.1);exact⟨rfl,fun y hy=>(hlow y (.inl hy)).1,fun y hy=>(hlow y (.inr (.inr (.inl hy)))).2⟩
 ·have h1:fP w0 (fun b=>pg+1<=b) Ad (ms.map fun m=>.map (some m)):=(bY hO.rd _ fun _ h=>h).2.1;exact h1.keep (aBT _) fun b hb hl=>⟨rfl,.inr ⟨hb,hl⟩⟩
 ·obtain⟨m',s,hm,_,hF⟩:=hfiG f l G h1 h2;rw[h3] at hm;injection hm with hm;subst hm;obtain⟨D,hD,hI⟩:=hF.map;exact⟨l.length,D,.inr ⟨hF.mB,hD.lt⟩,hD,hI⟩
 ·have:=hO.VR.size;have:=hO.sz;rcases hb with hb|hb
  ·have:=hP b hb;omega
  ·omega
 ·obtain⟨br,o',e',hl,_⟩:=hfs.2 hn;rw[e] at e';injection e' with e';injection e' with e';omega
structure Wu(w0:World)(pg:Nat)(W:Sc.Wk)(GG:List (List Nat))(Ai:Option Addr)(ss:List (Option Addr×Nat×Nat)):Prop where
 ri:fP w0 (fun b=>pg+1<=b) Ai (ss.map K4)
 sl:ss.length=W.items.length
 rows: ∀(f:Nat) (l:List Sc.It) (G:List Nat) (s:Option Addr×Nat×Nat),W.items[f]? =some l->GG[f]? =some G->ss[f]? =some s->s.2.1=l.length/\fP w0 (fun b=>pg+1<=b) s.1 (G.map bO)
theorem Mr.rows {fv:Value}{W:Sc.Wk}(hO:Mr w w0 (pg+1) P pg mb fv tv W.items GG ms ss Ai ci Ad cd):Wu w0 pg W GG Ai ss:=by
 refine⟨(bY hO.ri _ fun _ h=>h).2.1,hO.sl,fun f l G s h1 h2 h3=> ?_⟩;have hm:f<ms.length:=by rw[hO.ml];exact(aCD.1 h1).1
 have hF:=hO.fi f l G ms[f] s h1 h2 (aBY hm) h3;exact⟨hF.len,hF.row.1⟩
def Wp(w w':World)(P:Nat->Prop)(A:Option Addr)(c:Nat)(tv:Value)(fs:List Fl)(KK:List (List Tr.Kd))(pg:Nat):Prop:=
 ∃w0 mb GG Ai ci Ad cd ss,w.heap.size<=pg/\Below w.heap.size w w'/\Ph w0 (OfF P pg w0) pg mb A c fs Ad cd (Sc.qB fs KK) GG/\Wu w0 pg (Sc.qB fs KK) GG Ai ss/\
  IQ w0 w' pg mb (.slice A fs.length c) tv (.slice Ai (Sc.qB fs KK).items.length ci) (.slice Ad (Sc.qB fs KK).items.length cd) (Sc.qC (Sc.qB fs KK))/\Below w.heap.size w w0/\(∀b,P b->b<w.heap.size)
def OfE(w:World)(P:Nat->Prop)(fs:List Fl)(A:Option Addr)(c:Nat)(tv:Value)(KK:List (List Tr.Kd))(e:Ending)(w':World):Prop:= ∃pg,e=.returned (bO pg)/\Wp w w' P A c tv fs KK pg
section
variable{w:World}{P:Nat->Prop}
theorem aBl{At:Option Addr}{c ct:Nat}{fs:List Fl}{gts:List Nat}{KK:List (List Tr.Kd)}(hfs:EI w A fs)(hfl:fs.length=KK.length)(OW:fs.length<=1000)
  (hrow:fP w (fun _=>True) At (gts.map bO)) (hgl:gts.length=KK.length) (htr: ∀(i gt:Nat) (ks:List Tr.Kd),gts[i]? =some gt->KK[i]? =some ks->∃d A c T ts,vX w P gt d A c T ks ts)
  (hP: ∀b,P b->b<w.heap.size) (hok: ∀ks∈KK,aAJ ks) (ZE:(Sc.qC (Sc.qB fs KK)).length+1000000<=1000000000) (wG:Sc.lL (Sc.qB fs KK)<=100000000):
  Calls aBS 73 #[.slice A fs.length c,.slice At gts.length ct] w (OfE w P fs A c (.slice At gts.length ct) KK):=by
 have hpm0:=World.ownsMap_made (H:=Unit) w aBS 325 (plainElem aBS 3);have hd0:=nR w (.map #[] 0);have hs0:=aDD w (.map #[] 0);have hd1:=hd0.alloc hd0.size (.cells #[.slice A fs.length c,.slice At gts.length ct,nZZ,nZZ,nZZ,.map (some w.heap.size)] 86);have hpm1:=hpm0.alloc (.cells #[.slice A fs.length c,.slice At gts.length ct,nZZ,nZZ,nZZ,.map (some w.heap.size)] 86);have hB1:=aV.new (w.alloc (.map #[] 0)) 86 #[.slice A fs.length c,.slice At gts.length ct,nZZ,nZZ,nZZ,.map (some w.heap.size)];have hs1:=aDD (w.alloc (.map #[] 0)) (.cells #[.slice A fs.length c,.slice At gts.length ct,nZZ,nZZ,nZZ,.map (some w.heap.size)] 86);rw[hs0] at hB1 hs1;obtain⟨pg,Sl⟩:=dC (w.heap.size+1);have hmm:= @run_makeMap aBS;rw[<-Sl] at hB1 hs1;have Hpg:=aB Sl;have Wy:aC (((w.alloc (.map #[] 0)).alloc (.cells #[.slice A fs.length c,.slice At gts.length ct,nZZ,nZZ,nZZ,.map (some w.heap.size)] 86)).heap.size=pg+1):=hs1;have Xb:=aB hfl;have Yi:=aB hgl;have tY:=aB OW;have oL:=aB hrow;have Htr:=aB htr;have HP:=aB hP;have Yf:=aB hok;have Hus:=aB ZE;have TA:=aB wG;have Hfs:=aB hfs;have HB1:=aB hB1;have Hpm1:=aB hpm1;have wL:=aB hd1;clear hfl hgl OW hrow htr hP hok ZE wG hfs hpm0 hd0 hs0 hs1 Sl hB1 hpm1 hd1;unfold bO at *
 go_enter func73,ntmps73
 go_upto_region 2 with fail;rw[show w.heap.size+1=pg from Hpg.o.symm];generalize(w.alloc _).alloc _=w1 at *;have Nn:Mr w w1 (pg+1) P pg w.heap.size (.slice A fs.length c) (.slice At gts.length ct) [] [] [] [] none 0 none 0:=⟨HB1.o,aCW _ _ _ _,aCW _ _ _ _,Hpm1.o,rfl,rfl,rfl,by simp,fun f l G m s h=>by simp at h,wL.o,by rw[Wy.o];exact aBT _⟩;clear Wy HB1 Hpm1 wL;obtain⟨mb,hmb⟩:=dC w.heap.size;rw[<-hmb] at Nn⊢;have Hmb:=aB hmb;clear hmb;obtain⟨IT,hIT⟩:=dC ((Sc.qB fs KK).items);have HIT:=aB hIT;clear hIT;go_wp2_with fail
 go_loopg [24] gts.length (fun mm u wr=> ∃(i:Nat) (GG:List (List Nat)) (ms:List Nat) (ss:List (Option Addr×Nat×Nat)) (Ai:Option Addr) (ci:Nat) (Ad:Option Addr) (cd:Nat),u=vZZ i/\i<=gts.length/\gts.length-i<=mm/\
  Mr w wr (pg+1) P pg mb (.slice A fs.length c) (.slice At gts.length ct) (IT.take i) GG ms ss Ai ci Ad cd)
 case atStart=>exact⟨0,[],[],[],none,0,none,0,rfl,aBZ _,aBT _,Nn⟩
 case round=>
  obtain⟨i,GG,ms,ss,Ai,ci,Ad,cd,rfl,hi,hm,hO⟩:=hrel;clear Nn
  by_cases hlt:i<gts.length
  ·have GZ:=iZ i;have EB:=jJ i gts.length;have hiK:i<KK.length:=(by rw[<-Yi.o];exact hlt);obtain⟨b0,o0,rfl,_,hl0,hc0⟩:=oL.o (by simp;omega);have hx0:=hc0 i (.pointer (some ⟨gts[i],0,none⟩)) (by rw[aDO,aBY hlt];rfl);have q0:=(hO.VR.cell (p:=⟨b0,o0+i,none⟩) hl0).trans hx0;obtain⟨d,At0,ct0,T,ts,ZG⟩:=Htr.o i gts[i] KK[i] (aBY hlt) (aBY hiK);have hks:=Yf.o KK[i] (aCR hiK);have HITi:aC (IT[i]? =some (Sc.bM i KK[i])):=(by show _=_;rw[HIT.o];unfold Sc.qB;dsimp only;rw[aDO,List.getElem?_zipIdx,aBY hiK];simp);have ZG:=ZG.under hO.VR;generalize KK[i]=ks at *;generalize gts[i]=gt at *;have c1:=uX i (by have:=tY.o;have:=Xb.o;omega);have hkl:ks.length<=1000000000:=aBV hks.len (by omega);have hkw:=Jm (ZG.under ((aBU _ _).alloc (aBT _) (.map #[] 0))) hkl;have bZ:=aB hlt;have Hm:=aB hm;have ym:=aB hks;have HiK:=aB hiK;clear hi hm hlt hl0 hc0 hx0 ZG hks hiK hkl;go_wp2_with fail;refine hkw.mono ?_;clear hkw q0;rintro e3 w3 ⟨vs,A3,c3,rfl,hown3,hkds,hd3⟩;have hsm:=aDD wr (.map #[] 0);have W_:=dX (World.ownsMap_made (H:=Unit) wr aBS 9 kN) (hd3.block wr.heap.size (by rw[hsm];omega));have lW:Below wr.heap.size wr w3:=((aBU _ _).alloc (aBT _) (.map #[] 0)).trans (hd3.mono (by rw[hsm];omega));have yj:=aB (KW hown3 (by rw[hsm];omega:wr.heap.size<=_));obtain⟨n0,hn0⟩:=dC wr.heap.size;rw[<-hn0] at W_⊢;have Hn0:=aB hn0;have BQ:=aB lW;have mh:aC (n0<=w3.heap.size):=(by show _<=_;rw[hn0];exact lW.size);have hF0:JH w3 n0 P [] [] [] n0 none 0:=⟨rfl,List.nodup_nil,fun k x g h=>by simp at h,aCW _ _ _ _,⟨_,W_,tL.nil⟩,aBT _⟩;have Hwn:aC (w.heap.size<=n0):=(by show _<=_;rw[hn0];exact hO.VR.size);have Hpn:aC (pg+1<=n0):=(by show _<=_;rw[hn0];exact hO.sz);clear hd3 lW hn0 hown3 hsm W_ ZG;generalize wr=wo at *;go_wp2_with fail;obtain⟨i0,ji,iW,jz1,iV⟩:=info_parts H7
   go_loopg [8,33] ks.length (fun mm v u wi=> ∃(j:Nat) (G:List Nat) (Ar:Option Addr) (cr:Nat),v=.slice Ar G.length cr/\u=vZZ j/\j<=ks.length/\ks.length-j<=mm/\JH wi n0 P (Sc.bM i (ks.take j)) G G n0 Ar cr/\Below n0 w3 wi/\aD [229] w3 wi)
   case atStart=>exact⟨0,[],none,0,rfl,rfl,aBZ _,aBT _,hF0,aBU _ _,aD.refl _ _⟩
   case round=>
    obtain⟨j,G,Ar,cr,rfl,rfl,hj,hm2,hF,hd4,hK4⟩:=hrel;clear hF0
    by_cases hlt2:j<ks.length
    ·have jj0:=iZ j;have jj1:=jJ j ks.length;obtain⟨q,e0,e1,e2,e3,hpq⟩:=hkds.at_ hlt2;obtain⟨r3,o3,rfl,hl3,hc3⟩:=(Rd.rO yj.o).2 (by omega);have ZF:wr.heap[r3]? =w3.heap[r3]? :=(by obtain⟨cs,fr,h1⟩:=eU yj.o r3 rfl;exact(hK4 r3 cs _ fr h1 (by decide)).trans h1.symm);have q0:=(aCM (a:=⟨r3,o3+j*4,none⟩) ZF).trans (hc3 _ _ e0);have q1:=(aCM (a:=⟨r3,o3+(j*4+1),none⟩) ZF).trans (hc3 _ _ e1);have q2:=(aCM (a:=⟨r3,o3+(j*4+2),none⟩) ZF).trans (hc3 _ _ e2);have q3:=(aCM (a:=⟨r3,o3+(j*4+3),none⟩) ZF).trans (hc3 _ _ e3);rw[<-Nat.add_assoc] at q1 q2 q3;have hkd:=ym.o.kids ks[j] (aCR hlt2);have HT:aC (Sc.bM i (ks.take (j+1))=Sc.bM i (ks.take j)++(if Sc.gU ks[j] then [Sc.dZ i ks[j]] else [])):=by
      show _=_;rw[aCP hlt2];unfold Sc.bM;rw[List.filter_append,aDI]
      congr 1
      by_cases h:Sc.gU ks[j]=true<;>simp[h]
     have c2:=uX j (by have:=ym.o.len;omega);have Hpq:aC (dE wr P ks[j].part (.iface 114 (pZZ q))):=dE.keep hd4.size (fun b hb _=>⟨hd4.block b (aCF (HP.o b hb) Hwn.o),hb⟩) _ _ hpq;have Hkd:=aB hkd;generalize ks[j]=k at *;have Hll:aC ((Sc.bM i (ks.take j)).length<=1000000):=(by have h1:(Sc.bM i (ks.take j)).length<=(ks.take j).length:=(by unfold Sc.bM;rw[aCE];exact aED _ _);have:=ym.o.len;rw[aCY] at h1;show _<=_;omega);generalize Sc.bM i (ks.take j)=l at *;have nz:=aB hlt2;have yl:=aB hm2;have hr0:=aV.new wr 116 (V8 q k.base k.first k.last);have hd5:=nR wr (.cells (V8 q k.base k.first k.last) 116);clear e0 e1 e2 e3 hc3 ZF hl3 hkd hpq hlt2 hm2 hj;unfold V8 at hr0 hd5;unfold bO at hr0 hd5;go_upto_region 10 with fail;obtain⟨kb,hkb⟩:=dC wr.heap.size;rw[<-hkb] at hr0⊢;have Hkb:aC (kb=wr.heap.size):=hkb;have N_:n0<=wr.heap.size:=aBV mh.o hd4.size;have hF5:=hF.below hd5;have X7:=dE.below Hpq.o hd5;have wO:=hd4.trans (hd5.mono N_);have sH:aD [229] w3 (wr.alloc (.cells #[pZZ q,kZZ (k.base:Int),kZZ (k.first:Int),kZZ (k.last:Int)] 116)):=hK4.trans (aD.below hd5);have uk: ∀g∈G,g<kb:=fun g hg=>by rw[hkb];exact hF.lt hg
     have Hn0k:aC (n0<=kb):=(by show _<=_;rw[hkb];exact N_);clear hkb hd5 hd4 hK4 hF Hpq N_ q0 q1 q2 q3;generalize wr.alloc _=w5 at *;obtain⟨kd,at_,l0,hkp⟩: ∃kd at_ l0,k.part=.branch kd at_ l0:=by
      cases hp:k.part with
      |leaf a b d=>rw[hp] at X7;obtain⟨g,e,_⟩:=X7;injection e with e;exact absurd e (by decide)
      |gap a b d=>rw[hp] at X7;obtain⟨g,e,_⟩:=X7;injection e with e;exact absurd e (by decide)
      |branch a b d=>exact⟨a,b,d,rfl⟩
     have hq0:w5.cell? ⟨q,0,none⟩=some (vZZ kd):=(by have h:=X7;rw[hkp] at h;obtain⟨q',e,_,Ab,cb,vb,hB,_⟩:=h;injection e with _ e;injection e with e;injection e with e;injection e with e;subst e;have:=hB.cell 0;simpa using this);have HI:aC (Sc.gU k=(kd==3||kd==4)):=(by show _=_;unfold Sc.gU Sc.kindOf;rw[hkp]);have k0:=hr0.cell 0;simp at k0;clear hkp
     go_cut [50] (fun s wc=>s=.bool (!Sc.gU k)/\wc=w5)
     case first=>
      by_cases h3:kd=3
      ·subst h3;go_wp2_with fail;go_meet;exact⟨by rw[HI.o];rfl,rfl⟩
      ·have n3:((kd:Int) !=(3:Int))=true:=by simp;omega
       by_cases h4:kd=4
       ·subst h4;go_wp2_with fail;go_meet;exact⟨by rw[HI.o];rfl,rfl⟩
       ·have n4:((kd:Int) !=(4:Int))=true:=(by simp;omega);have HI2:aC (Sc.gU k=false):=(by show _=_;rw[HI.o];simp[h3,h4]);clear HI h3 h4;go_wp2_with fail;go_meet;exact⟨by rw[HI2.o];rfl,rfl⟩
     case rest=>
      obtain⟨rfl,rfl⟩:=hcut;clear hq0 k0 HI;cases hit:Sc.gU k with
      |false=>
       rw[hit] at HT;have HT2:aC (Sc.bM i (ks.take (j+1))=l):=by show _=_;rw[HT.o];simp
       clear hit HT;go_wp2_with fail
       go_roundg (ks.length-(j+1))
       case rel=>exact⟨j+1,G,Ar,cr,rfl,by go_num,by have:=nz.o;omega,aBT _,by rw[HT2.o];exact hF5,wO,sH⟩
       case measure=>have:=nz.o;have:=yl.o;omega
      |true=>
       obtain⟨hx,hlow,hcnt⟩:=Hkd.o hit;rw[hit] at HT;have HT2:aC (Sc.bM i (ks.take (j+1))=l++[Sc.dZ i k]):=(by show _=_;rw[HT.o];simp);have hio:=Ig X7 hx hlow i;clear hit HT hx hcnt;have PU:=aB hlow;clear hlow;have hil:=LY (n:=i) PU.o;generalize Sc.dZ i k=x at *;unfold V8 bO at hio;have Yg:aC (∀y:Sc.Wd,x.name=some y->y.text.length<=1000000):=fun y e=>(hil y (.inl e)).2
       clear PU hil;have k0:=hr0.cell 0;have k1:=hr0.cell 1;have k2:=hr0.cell 2;have k3:=hr0.cell 3;simp at k0 k1 k2 k3;go_wp2_with fail;refine hio.mono ?_;clear hio k0 k1 k2 k3;rintro e6 w6 ⟨g,rfl,hg,hG6,hd6⟩;have hwn:n0<=wc.heap.size:=aBV Hn0k.o (Nat.le_of_lt hr0.lt);have Hgn:aC (g∉G):=fun h=>(by have:=uk g h;have:=hr0.lt;omega);have Hng:aC (n0<=g):=aBV hwn hg;have HPn:aC (∀b,P b->b<n0):=fun b hb=>aCF (HP.o b hb) Hwn.o
       have jg:=hG6.mono (F':=fun b=>n0<=b) fun b hb=>aBV hwn hb
       have VB:=wO.trans (hd6.mono hwn);have BP:=sH.trans (aD.below (T:=[229]) hd6);have Xz:=hF5.below hd6;obtain⟨_,_,pb,nv,Ap,cp,ev,mv,me,av,hB,_,hnw,_⟩:=hG6;have x5:=hB.cell 5;simp[kW] at x5;have hne:=fun w'=>(sS hnw (.tmp 57) (.const (oZZ)) w').1
       have hne2:=fun w'=>(sS hnw (.tmp 57) (.const (oZZ)) w').2
       clear X7 uk hr0 Hkb Hn0k;unfold bO at *;go_upto_if 58 with fail;clear hne hne2
       go_cut [] (fun wx=>JH wx n0 P (l++[x]) (G++[g]) G n0 Ar cr/\Below n0 w3 wx/\aD [229] w3 wx)
       case first=>
        cases zA:x.name with
        |none=>have HF7:=aB (Xz.skip (x:=x) (g:=g) (by rw[Sc.KC,zA];exact jg) Hgn.o fun n hn=>by unfold Sc.named at hn;rw[zA] at hn;cases hn);clear zA x5;go_wp2_with fail;go_meet;exact⟨HF7.o,VB,BP⟩
        |some y=>
         rw[zA] at hnw;obtain⟨gw,rfl,_,hBw⟩:=hnw;have u0:=hBw.cell 0;simp at u0;obtain⟨D,hmD,hDi⟩:=Xz.map;have hlk:=SB hmD hDi Xz.gl y.text (by have:=Yg.o y zA;unfold maxLen;omega);have Htw:aC (Sc.dW (l++[x]) l.length=(Sc.bJ l y.text).isSome):=by show _=_;rw[Sc.KC,zA]
         have x4:=hB.cell 4;have y4:=hB.frozen 4;simp[kW] at x4;have Nu:=aB zA;have Hf:=aB (rfl:Sc.bJ l y.text=Sc.bJ l y.text);generalize rV l G y.text=fv at *;generalize hfm:Sc.bJ l y.text=fm at *;have yt:=aB hfm;have HmD:=aB hmD;clear hfm zA Hf hmD;have HDi:=aB hDi;clear hDi;go_upto_region 14 with fail;have hG7:=jg.twice fm.isSome HPn.o Hng.o;have hd7:=hd6.setCell (p:=⟨g,4,none⟩) hg (.bool fm.isSome);have Xy:=hF5.below hd7;have zB:=wO.trans (hd7.mono hwn);have JA:=sH.trans (aD.below (T:=[229]) hd7);have VD:=hB.bD 4 (.bool fm.isSome);unfold kW at VD;simp at VD;have hm7:=dX HmD.o ((fF w6 g 4 (.bool fm.isSome)).block n0 HmD.o.lt fun e=>nV HmD.o hB (by injection e with e;exact e.symm));have aAi:=hBw.aG (aD.set hB (aCH.2 rfl) (i:=4) (v:=.bool fm.isSome)) (by decide);clear u0 hlk x4 y4 hBw x5 hB Xz jg VB BP hF5 wO sH hd6 HmD hd7 hg hwn;generalize w6.setCell _ _=w7 at *;have x4:=VD.cell 4;have x5:=VD.cell 5;simp at x4 x5;cases fm with
         |some kf=>have HF8:=aB (Xy.skip (x:=x) (g:=g) (by rw[Htw.o];exact hG7) Hgn.o fun n hn=>by unfold Sc.named at hn;rw[Nu.o] at hn;dsimp only at hn;have e:=eq_of_beq hn;rw[<-e,yt.o];rfl);clear hm7 Xy hG7 VD aAi;go_wp2_with fail;go_meet;exact⟨HF8.o,zB,JA⟩
         |none=>have sw:n0<=w7.heap.size:=aBV Hng.o (Nat.le_of_lt VD.lt);have w0c:=aAi.cell 0;simp at w0c;have hkl:keyOf aBS 9 (.string ⟨y.text.toArray⟩)=some (.string y.text):=(by have h1:=WideMaps.keyOf_string_mk (P:=aBS) underlying9 (s:=(⟨y.text.toArray⟩:ByteArray)) (by rw[bG];have:=Yg.o y Nu.o;unfold maxLen;omega);simpa using h1);have HF7:=aB Xy;have HG7:=aB hG7;have Hz7:=aB sw;clear Xy hG7 VD sw aAi;go_wp2_with (at_mapUpdate;refine wpList_mapUpdate_own (H:=Unit) w7 rfl _ _ _ 228 rfl 9 229 Rm underlying228 kN n0 l.length D rfl hm7 (by have:=Hll.o;unfold maxLen;omega) _ _ _ rfl rfl hkl (.lit (.int .i64 (g:Int))) [] rfl ?_;intro w8 hm8 uw);go_meet;have hF8:=HF7.o.put HPn.o (x:=x) (g:=g) (by rw[Htw.o];exact HG7.o) Hgn.o Nu.o yt.o uw hm7 HDi.o hm8;have II:Below n0 w7 w8:=(aBU _ _).grown uw Hz7.o fun j hj=>(by injection hj with hj;exact hj▸aBT _);exact⟨hF8,zB.trans II,JA.trans ((bQ.map hm7 uw).mono (by simp))⟩
       case rest=>
        obtain⟨hF8,II,RY⟩:=hcut;have hwn8:n0<=wc.heap.size:=aBV mh.o II.size;have zP:=hF8.row;have Hgl8:aC (G.length<=1000000000):=(by have h1:=hF8.gl;rw[aBW,aBW] at h1;have:=Hll.o;show _<=_;simp at h1;omega);have HF8:=aB hF8;have Hwn8:=aB hwn8;clear hwn8 hF8 x5 VB Xz BP jg hB hnw hF5 wO sH hg hwn hd6;go_wp2_with (at_builtin;refine dF _ rfl _ _ 227 rfl n0 229 1 8 underlying227 ji iW jz1 iV rfl (by omega) rfl zP #[pZZ g] rfl rfl (by simp[aCA]) Hgl8.o (by omega) Hwn8.o ?_;intro A' c' w9 aBt BO hg9);have hF9:=HF8.o.push HPn.o (by rw[aBW,aDI];exact aBt) BO hg9
        go_roundg (ks.length-(j+1))
        case rel=>exact⟨j+1,G++[g],A',c',by rw[aBW];rfl,by go_num,by have:=nz.o;omega,aBT _,by rw[HT2.o];exact hF9,II.trans BO,RY.trans (aD.row zP hg9)⟩
        case measure=>have:=nz.o;have:=yl.o;omega
    ·obtain rfl:j=ks.length:=(by omega);have i1:=lC ks.length;have i2:=kZ ks.length;rw[List.take_length] at hF;have HTi:aC (IT.take (i+1)=IT.take i++[Sc.bM i ks]):=(by show _=_;have h:=HITi.o;have hlt:=(aCD.1 h).1;rw[aCP hlt,(aCD.1 h).2]);generalize Sc.bM i ks=l at *;have Hd34:=aB (BQ.o.trans (hd4.mono (by rw[<-Hn0.o];exact aBT _)));have hO4:=hO.below Hd34.o;clear hlt2 hj hm2 hd4 hK4;go_upto_region 18 with fail;have hM:Mid w wr (pg+1) n0 P pg mb (.slice A fs.length c) (.slice (some ⟨b0,o0,none⟩) gts.length ct) (IT.take i) GG ms ss (.slice Ai (IT.take i).length ci) (.slice Ad (IT.take i).length cd) l G Ar cr (.slice Ai (IT.take i).length ci) (IT.take i).length (ss.map K4) (.slice Ad (IT.take i).length cd) (IT.take i).length (ms.map fun m=>.map (some m)):=
      ⟨hO4.blk,hO4.ri,hO4.rd,hO4.pm,hO4.fi,hF,hO4.VR,hO4.sz⟩
     have MC:w.heap.size<=pg+1:=(by have:=Hpg.o;omega);have hN:(IT.take i).length<=1000:=(by rw[aCY];have:=HiK.o;have:=Xb.o;have:=tY.o;omega);have hfin: ∀(u:World) (A1:Option Addr) (c1:Nat) (A2:Option Addr) (c2:Nat),Mid w u (pg+1) n0 P pg mb (.slice A fs.length c) (.slice (some ⟨b0,o0,none⟩) gts.length ct) (IT.take i) GG ms ss (.slice Ai (IT.take i).length ci) (.slice Ad (IT.take i).length cd) l G Ar cr (.slice A1 ((IT.take i).length+1) c1) ((IT.take i).length+1) (ss.map K4++[.slice Ar G.length cr]) (.slice A2 ((IT.take i).length+1) c2) ((IT.take i).length+1) ((ms.map fun m=>.map (some m))++[.map (some n0)])->
       Mr w ((u.setCell ⟨pg,2,none⟩ (.slice A1 ((IT.take i).length+1) c1)).setCell ⟨pg,4,none⟩ (.slice A2 ((IT.take i).length+1) c2)) (pg+1) P pg mb (.slice A fs.length c) (.slice (some ⟨b0,o0,none⟩) gts.length ct) (IT.take i++[l]) (GG++[G]) (ms++[n0]) (ss++[(Ar,G.length,cr)]) A1 c1 A2 c2:=fun u A1 c1 A2 c2 h=>
      h.done HP.o MC (by have:=Hpg.o;omega) (by omega) Hpn.o rfl rfl rfl rfl (by rw[aDI];rfl) (by rw[aDI];rfl) hO.gl hO.ml hO.sl hO.nd (fun g hg=>by rw[Hn0.o];exact hO.few hg) fun g hg=>hF.ge hg
     obtain⟨qi0,qi1,qi2,qi3,qi4⟩:=info_parts Vj;obtain⟨qd0,qd1,qd2,qd3,qd4⟩:=info_parts lh;have Hfin:=aB hfin;have hfin:=Hfin.o;clear hO4 hF hO Hfin ji iW jz1 iV i0 i1 i2;generalize IT.take i=LL at *;refine WW (fun j w'=>j∉ [1,9,10,11,13,18,19,20,21]->w'.cell? ⟨pg,2,none⟩=some (.slice Ai LL.length ci)/\w'.cell? ⟨pg,4,none⟩=some (.slice Ad LL.length cd)) (by kernel_rfl) ?_;have hM:=hM.below ((aBU _ _).drew);generalize wr.drew=w2 at *;have c2:=hM.blk.cell 2;have c4:=hM.blk.cell 4;simp at c2 c4;have hS0:(fun w':World=>w'.cell? ⟨pg,2,none⟩=some (.slice Ai LL.length ci)/\w'.cell? ⟨pg,4,none⟩=some (.slice Ad LL.length cd)) w2:=⟨c2,c4⟩;refine fI (fun _=>True) [] (i:=1) (v:= ?_) rfl (by kernel_rfl) (by kernel_rfl) (by kernel_rfl) (by kernel_rfl) (fun _ _ _ h=>h) (fun _ _ _ _ _ _=>trivial) (fun w' _ h=>absurd (by simp) h) (aDL ⟨by rfl,?_⟩) trivial ?_;rotate_left;· (intro w hSw;go_simp;try with_reducible rfl)
     simp only[aEB,List.setIfInBounds_toArray];refine fI (fun _=>True) [] (i:=9) (v:= ?_) rfl (by kernel_rfl) (by kernel_rfl) (by kernel_rfl) (by kernel_rfl) (fun _ _ _ h=>h) (fun _ _ _ _ _ _=>trivial) (fun w' _ h=>absurd (by simp) h) (aDL ⟨by rfl,?_⟩) trivial ?_;rotate_left;· (intro w hSw;go_simp;try with_reducible rfl)
     simp only[aEB];refine fI (fun _=>True) [] (i:=10) (v:= ?_) rfl (by kernel_rfl) (by kernel_rfl) (by kernel_rfl) (by kernel_rfl) (fun _ _ _ h=>h) (fun _ _ _ _ _ _=>trivial) (fun w' _ h=>absurd (by simp) h) (aDL ⟨by rfl,?_⟩) trivial ?_;rotate_left;· (intro w hSw;go_simp;try with_reducible rfl)
     simp only[aEB];refine fI (fun _=>True) [] (i:=11) (v:= ?_) rfl (by kernel_rfl) (by kernel_rfl) (by kernel_rfl) (by kernel_rfl) (fun _ _ _ h=>h) (fun _ _ _ _ _ _=>trivial) (fun w' _ h=>absurd (by simp) h) (aDL ⟨by rfl,?_⟩) trivial ?_;rotate_left;· (intro w hSw;go_simp;try with_reducible rfl)
     simp only[aEB];refine fI (fun _=>True) [] (i:=13) (v:= ?_) rfl (by kernel_rfl) (by kernel_rfl) (by kernel_rfl) (by kernel_rfl) (fun _ _ _ h=>h) (fun _ _ _ _ _ _=>trivial) (fun w' _ h=>absurd (by simp) h) (aDL ⟨by rfl,?_⟩) trivial ?_;rotate_left;· (intro w hSw;go_simp;try with_reducible rfl)
     simp only[aEB];refine fI (fun w':World=>w'.cell? ⟨pg,2,none⟩=some (.slice Ai LL.length ci)/\w'.cell? ⟨pg,4,none⟩=some (.slice Ad LL.length cd)) [18,19,20,21] (i:=0) (v:= ?_) rfl (by kernel_rfl) (by kernel_rfl) (by kernel_rfl) (by kernel_rfl) (fun _ _ _ h=>h) (fun j w' hl _ hL h=>h fun hm=>by simp only[aCJ,aEO,or_false] at hm hL;rcases hm with rfl|rfl|rfl|rfl|rfl|rfl|rfl|rfl|rfl<;>first|exact absurd hl (by decide)|exact hL (by simp)) (fun w' h _=>h) (aDL ⟨by rfl,?_⟩) hS0 ?_;rotate_left;· (intro w hSw;obtain⟨s1,s2⟩:=hSw;go_simp;try with_reducible rfl)
     simp only[aEB];refine fI (fun w':World=>w'.cell? ⟨pg,2,none⟩=some (.slice Ai LL.length ci)/\w'.cell? ⟨pg,4,none⟩=some (.slice Ad LL.length cd)) [18,19,20,21] (i:=2) (v:= ?_) rfl (by kernel_rfl) (by kernel_rfl) (by kernel_rfl) (by kernel_rfl) (fun _ _ _ h=>h) (fun j w' hl _ hL h=>h fun hm=>by simp only[aCJ,aEO,or_false] at hm hL;rcases hm with rfl|rfl|rfl|rfl|rfl|rfl|rfl|rfl|rfl<;>first|exact absurd hl (by decide)|exact hL (by simp)) (fun w' h _=>h) (aDL ⟨by rfl,?_⟩) hS0 ?_;rotate_left;· (intro w hSw;obtain⟨s1,s2⟩:=hSw;go_simp;try with_reducible rfl)
     simp only[aEB];refine fI (fun w':World=>w'.cell? ⟨pg,2,none⟩=some (.slice Ai LL.length ci)/\w'.cell? ⟨pg,4,none⟩=some (.slice Ad LL.length cd)) [18,19,20,21] (i:=3) (v:= ?_) rfl (by kernel_rfl) (by kernel_rfl) (by kernel_rfl) (by kernel_rfl) (fun _ _ _ h=>h) (fun j w' hl _ hL h=>h fun hm=>by simp only[aCJ,aEO,or_false] at hm hL;rcases hm with rfl|rfl|rfl|rfl|rfl|rfl|rfl|rfl|rfl<;>first|exact absurd hl (by decide)|exact hL (by simp)) (fun w' h _=>h) (aDL ⟨by rfl,?_⟩) hS0 ?_;rotate_left;· (intro w hSw;obtain⟨s1,s2⟩:=hSw;go_simp;try with_reducible rfl)
     simp only[aEB];refine fI (fun w':World=>w'.cell? ⟨pg,2,none⟩=some (.slice Ai LL.length ci)/\w'.cell? ⟨pg,4,none⟩=some (.slice Ad LL.length cd)) [18,19,20,21] (i:=4) (v:= ?_) rfl (by kernel_rfl) (by kernel_rfl) (by kernel_rfl) (by kernel_rfl) (fun _ _ _ h=>h) (fun j w' hl _ hL h=>h fun hm=>by simp only[aCJ,aEO,or_false] at hm hL;rcases hm with rfl|rfl|rfl|rfl|rfl|rfl|rfl|rfl|rfl<;>first|exact absurd hl (by decide)|exact hL (by simp)) (fun w' h _=>h) (aDL ⟨by rfl,?_⟩) hS0 ?_;rotate_left;· (intro w hSw;obtain⟨s1,s2⟩:=hSw;go_simp;try with_reducible rfl)
     simp only[aEB];refine fI (fun w':World=>w'.cell? ⟨pg,2,none⟩=some (.slice Ai LL.length ci)/\w'.cell? ⟨pg,4,none⟩=some (.slice Ad LL.length cd)) [18,19,20,21] (i:=5) (v:= ?_) rfl (by kernel_rfl) (by kernel_rfl) (by kernel_rfl) (by kernel_rfl) (fun _ _ _ h=>h) (fun j w' hl _ hL h=>h fun hm=>by simp only[aCJ,aEO,or_false] at hm hL;rcases hm with rfl|rfl|rfl|rfl|rfl|rfl|rfl|rfl|rfl<;>first|exact absurd hl (by decide)|exact hL (by simp)) (fun w' h _=>h) (aDL ⟨by rfl,?_⟩) hS0 ?_;rotate_left;· (intro w hSw;obtain⟨s1,s2⟩:=hSw;go_simp;try with_reducible rfl)
     simp only[aEB];refine fI (fun w':World=>w'.cell? ⟨pg,2,none⟩=some (.slice Ai LL.length ci)/\w'.cell? ⟨pg,4,none⟩=some (.slice Ad LL.length cd)) [18,19,20,21] (i:=6) (v:= ?_) rfl (by kernel_rfl) (by kernel_rfl) (by kernel_rfl) (by kernel_rfl) (fun _ _ _ h=>h) (fun j w' hl _ hL h=>h fun hm=>by simp only[aCJ,aEO,or_false] at hm hL;rcases hm with rfl|rfl|rfl|rfl|rfl|rfl|rfl|rfl|rfl<;>first|exact absurd hl (by decide)|exact hL (by simp)) (fun w' h _=>h) (aDL ⟨by rfl,?_⟩) hS0 ?_;rotate_left;· (intro w hSw;obtain⟨s1,s2⟩:=hSw;go_simp;try with_reducible rfl)
     simp only[aEB];refine fI (fun w':World=>w'.cell? ⟨pg,2,none⟩=some (.slice Ai LL.length ci)/\w'.cell? ⟨pg,4,none⟩=some (.slice Ad LL.length cd)) [18,19,20,21] (i:=12) (v:= ?_) rfl (by kernel_rfl) (by kernel_rfl) (by kernel_rfl) (by kernel_rfl) (fun _ _ _ h=>h) (fun j w' hl _ hL h=>h fun hm=>by simp only[aCJ,aEO,or_false] at hm hL;rcases hm with rfl|rfl|rfl|rfl|rfl|rfl|rfl|rfl|rfl<;>first|exact absurd hl (by decide)|exact hL (by simp)) (fun w' h _=>h) (aDL ⟨by rfl,?_⟩) hS0 ?_;rotate_left;· (intro w hSw;obtain⟨s1,s2⟩:=hSw;go_simp;try with_reducible rfl)
     simp only[aEB];clear hS0 c2 c4;refine JR (i:=7) (j:=14) (by kernel_rfl) rfl rfl (fun K hK=> ?_) (fun K hK=> ?_)
     ·go_simp;obtain⟨T7,hT7⟩:=dC w2.heap.size;rw[<-hT7];have VC:aV (aEV w2 (.cells #[.slice Ar G.length cr] 227)) T7 227 #[.slice Ar G.length cr]:=(by rw[hT7];exact aV.new _ _ _);have hM:=hM.below ((aBU _ _).alloc (aBT _) (.cells #[.slice Ar G.length cr] 227));clear hT7;generalize aEV _ (.cells #[.slice Ar G.length cr] 227)=w3 at *;have c2:=hM.blk.cell 2;have c4:=hM.blk.cell 4;simp at c2 c4;refine hK.out _ _ (fun _=>⟨c2,c4⟩) ?_;clear hK K c2 c4;refine JR (i:=8) (j:=14) (by kernel_rfl) rfl rfl (fun K hK=> ?_) (fun K hK=> ?_)
      ·refine iU (by rfl) _ _ _ (by rfl) (pg+1) 227 qi0 _ 1 24 underlying82 qi1 qi2 qi3 qi4 rfl (by omega) (.slice Ai LL.length ci) LL.length (ss.map K4) (by rfl) hM.ri ⟨T7,0,none⟩ 1 1 [.slice Ar G.length cr] (by rfl) (by rfl) (aCK (cs:=#[.slice Ar G.length cr]) (t:=227) (fr:=(0,0)) VC) (by simp[aCA]) (by unfold maxLen;omega) (by omega) hM.sz ?_;intro vi w4 IB hgi;have l5:=hM.YD HP.o MC IB hgi;clear hgi hM VC;have hM:=l5;clear l5;have c2:=hM.blk.cell 2;have c4:=hM.blk.cell 4;simp at c2 c4;refine hK.out _ _ (fun _=>⟨c2,c4⟩) ?_;clear hK K c2 c4;refine bL (i:=14) (by kernel_rfl) rfl (fun K hK=> ?_);go_simp;obtain⟨wu,MQ⟩:=dC w4.heap.size;rw[<-MQ];have qR:aV (aEV w4 (.cells #[.map (some n0)] 228)) wu 228 #[.map (some n0)]:=by rw[MQ];exact aV.new _ _ _
       have hM:=hM.below ((aBU _ _).alloc (aBT _) (.cells #[.map (some n0)] 228));clear MQ;generalize aEV _ (.cells #[.map (some n0)] 228)=w5 at *;have c2:=hM.blk.cell 2;have c4:=hM.blk.cell 4;simp at c2 c4;refine hK.out _ _ (fun _=>⟨c2,c4⟩) ?_;clear hK K c2 c4;refine bL (i:=15) (by kernel_rfl) rfl (fun K hK=> ?_);refine iU (by rfl) _ _ _ (by rfl) (pg+1) 228 qd0 _ 1 8 underlying83 qd1 qd2 qd3 qd4 rfl (by omega) (.slice Ad LL.length cd) LL.length (ms.map fun m=>.map (some m)) (by rfl) hM.rd ⟨wu,0,none⟩ 1 1 [.map (some n0)] (by rfl) (by rfl) (aCK (cs:=#[.map (some n0)]) (t:=228) (fr:=(0,0)) qR) (by simp[aCA]) (by unfold maxLen;omega) (by omega) hM.sz ?_;intro vd w6 IC hgd;have l5:=hM.Qj HP.o MC IC hgd;clear hgd hM qR;have hM:=l5;clear l5;have c2:=hM.blk.cell 2;have c4:=hM.blk.cell 4;simp at c2 c4;refine hK.out _ _ (fun _=>⟨c2,c4⟩) ?_;clear hK K c2 c4;obtain⟨A1,c1',rfl,_⟩:=gQ IB;obtain⟨A2,c2',rfl,_⟩:=gQ IC;have c2:=hM.blk.cell 2;have c4:=hM.blk.cell 4;simp at c2 c4;have y2:=hM.blk.frozen 2;refine bL (i:=16) (by kernel_rfl) rfl (fun K hK=> ?_);go_simp;refine hK.out _ _ (fun _=>⟨c2,c4⟩) ?_;clear hK K;refine bL (i:=17) (by kernel_rfl) rfl (fun K hK=> ?_);go_simp;refine hK.out _ _ (fun _=>⟨c2,c4⟩) ?_;clear hK K;have hB2:=hM.blk.bD 2 (.slice A1 (LL.length+1) c1');have z4:=hB2.cell 4;have y4:=hB2.frozen 4;simp at z4;refine bL (i:=18) (by kernel_rfl) rfl (fun K hK=> ?_);go_simp;refine hK.out _ _ (fun h=>absurd (by simp) h) ?_;clear hK K;refine bL (i:=19) (by kernel_rfl) rfl (fun K hK=> ?_);go_simp;refine hK.out _ _ (fun h=>absurd (by simp) h) ?_;clear hK K;refine bL (i:=20) (by kernel_rfl) rfl (fun K hK=> ?_);go_simp;refine hK.out _ _ (fun h=>absurd (by simp) h) ?_;clear hK K;refine bL (i:=21) (by kernel_rfl) rfl (fun K hK=> ?_);go_simp;refine hK.out _ _ (fun h=>absurd (by simp) h) ?_;clear hK K;refine wR (by kernel_rfl) ?_ _;have hE:=hfin _ _ _ _ _ hM;clear c2 c4 y2 hB2 z4 y4 hM;rw[<-HTi.o] at hE;generalize aCI _ _ (.slice A2 (LL.length+1) c2')=wz at *;go_wp2_with fail
       go_roundg (gts.length-(i+1))
       case rel=>exact⟨i+1,_,_,_,_,_,_,_,by go_num,by have:=bZ.o;omega,aBT _,hE⟩
       case measure=>have:=bZ.o;have:=Hm.o;omega
      ·go_simp;obtain⟨wu,MQ⟩:=dC w3.heap.size;rw[<-MQ];have qR:aV (aEV w3 (.cells #[.map (some n0)] 228)) wu 228 #[.map (some n0)]:=(by rw[MQ];exact aV.new _ _ _);have hM:=hM.below ((aBU _ _).alloc (aBT _) (.cells #[.map (some n0)] 228));have VC:=VC.alloc (.cells #[.map (some n0)] 228);clear MQ;generalize aEV _ (.cells #[.map (some n0)] 228)=w4 at *;have c2:=hM.blk.cell 2;have c4:=hM.blk.cell 4;simp at c2 c4;refine hK.out _ _ (fun _=>⟨c2,c4⟩) ?_;clear hK K c2 c4;refine bL (i:=8) (by kernel_rfl) rfl (fun K hK=> ?_);refine iU (by rfl) _ _ _ (by rfl) (pg+1) 227 qi0 _ 1 24 underlying82 qi1 qi2 qi3 qi4 rfl (by omega) (.slice Ai LL.length ci) LL.length (ss.map K4) (by rfl) hM.ri ⟨T7,0,none⟩ 1 1 [.slice Ar G.length cr] (by rfl) (by rfl) (aCK (cs:=#[.slice Ar G.length cr]) (t:=227) (fr:=(0,0)) VC) (by simp[aCA]) (by unfold maxLen;omega) (by omega) hM.sz ?_;intro vi w5 IB hgi;have l5:=hM.YD HP.o MC IB hgi;have qR:=qR.grown hgi (own_ne hM.ri qR (by decide));clear hgi hM VC;have hM:=l5;clear l5;have c2:=hM.blk.cell 2;have c4:=hM.blk.cell 4;simp at c2 c4;refine hK.out _ _ (fun _=>⟨c2,c4⟩) ?_;clear hK K c2 c4;refine bL (i:=15) (by kernel_rfl) rfl (fun K hK=> ?_);refine iU (by rfl) _ _ _ (by rfl) (pg+1) 228 qd0 _ 1 8 underlying83 qd1 qd2 qd3 qd4 rfl (by omega) (.slice Ad LL.length cd) LL.length (ms.map fun m=>.map (some m)) (by rfl) hM.rd ⟨wu,0,none⟩ 1 1 [.map (some n0)] (by rfl) (by rfl) (aCK (cs:=#[.map (some n0)]) (t:=228) (fr:=(0,0)) qR) (by simp[aCA]) (by unfold maxLen;omega) (by omega) hM.sz ?_;intro vd w6 IC hgd;have l5:=hM.Qj HP.o MC IC hgd;clear hgd hM qR;have hM:=l5;clear l5;have c2:=hM.blk.cell 2;have c4:=hM.blk.cell 4;simp at c2 c4;refine hK.out _ _ (fun _=>⟨c2,c4⟩) ?_;clear hK K c2 c4;obtain⟨A1,c1',rfl,_⟩:=gQ IB;obtain⟨A2,c2',rfl,_⟩:=gQ IC;have c2:=hM.blk.cell 2;have c4:=hM.blk.cell 4;simp at c2 c4;have y2:=hM.blk.frozen 2;refine bL (i:=16) (by kernel_rfl) rfl (fun K hK=> ?_);go_simp;refine hK.out _ _ (fun _=>⟨c2,c4⟩) ?_;clear hK K;refine bL (i:=17) (by kernel_rfl) rfl (fun K hK=> ?_);go_simp;refine hK.out _ _ (fun _=>⟨c2,c4⟩) ?_;clear hK K;have hB2:=hM.blk.bD 2 (.slice A1 (LL.length+1) c1');have z4:=hB2.cell 4;have y4:=hB2.frozen 4;simp at z4;refine bL (i:=18) (by kernel_rfl) rfl (fun K hK=> ?_);go_simp;refine hK.out _ _ (fun h=>absurd (by simp) h) ?_;clear hK K;refine bL (i:=19) (by kernel_rfl) rfl (fun K hK=> ?_);go_simp;refine hK.out _ _ (fun h=>absurd (by simp) h) ?_;clear hK K;refine bL (i:=20) (by kernel_rfl) rfl (fun K hK=> ?_);go_simp;refine hK.out _ _ (fun h=>absurd (by simp) h) ?_;clear hK K;refine bL (i:=21) (by kernel_rfl) rfl (fun K hK=> ?_);go_simp;refine hK.out _ _ (fun h=>absurd (by simp) h) ?_;clear hK K;refine wR (by kernel_rfl) ?_ _;have hE:=hfin _ _ _ _ _ hM;clear c2 c4 y2 hB2 z4 y4 hM;rw[<-HTi.o] at hE;generalize aCI _ _ (.slice A2 (LL.length+1) c2')=wz at *;go_wp2_with fail
       go_roundg (gts.length-(i+1))
       case rel=>exact⟨i+1,_,_,_,_,_,_,_,by go_num,by have:=bZ.o;omega,aBT _,hE⟩
       case measure=>have:=bZ.o;have:=Hm.o;omega
     ·go_simp;obtain⟨wu,MQ⟩:=dC w2.heap.size;rw[<-MQ];have qR:aV (aEV w2 (.cells #[.map (some n0)] 228)) wu 228 #[.map (some n0)]:=(by rw[MQ];exact aV.new _ _ _);have hM:=hM.below ((aBU _ _).alloc (aBT _) (.cells #[.map (some n0)] 228));clear MQ;generalize aEV _ (.cells #[.map (some n0)] 228)=w3 at *;have c2:=hM.blk.cell 2;have c4:=hM.blk.cell 4;simp at c2 c4;refine hK.out _ _ (fun _=>⟨c2,c4⟩) ?_;clear hK K c2 c4;refine bL (i:=7) (by kernel_rfl) rfl (fun K hK=> ?_);go_simp;obtain⟨T7,hT7⟩:=dC w3.heap.size;rw[<-hT7];have VC:aV (aEV w3 (.cells #[.slice Ar G.length cr] 227)) T7 227 #[.slice Ar G.length cr]:=(by rw[hT7];exact aV.new _ _ _);have hM:=hM.below ((aBU _ _).alloc (aBT _) (.cells #[.slice Ar G.length cr] 227));have qR:=qR.alloc (.cells #[.slice Ar G.length cr] 227);clear hT7;generalize aEV _ (.cells #[.slice Ar G.length cr] 227)=w4 at *;have c2:=hM.blk.cell 2;have c4:=hM.blk.cell 4;simp at c2 c4;refine hK.out _ _ (fun _=>⟨c2,c4⟩) ?_;clear hK K c2 c4;refine bL (i:=8) (by kernel_rfl) rfl (fun K hK=> ?_);refine iU (by rfl) _ _ _ (by rfl) (pg+1) 227 qi0 _ 1 24 underlying82 qi1 qi2 qi3 qi4 rfl (by omega) (.slice Ai LL.length ci) LL.length (ss.map K4) (by rfl) hM.ri ⟨T7,0,none⟩ 1 1 [.slice Ar G.length cr] (by rfl) (by rfl) (aCK (cs:=#[.slice Ar G.length cr]) (t:=227) (fr:=(0,0)) VC) (by simp[aCA]) (by unfold maxLen;omega) (by omega) hM.sz ?_;intro vi w5 IB hgi;have l5:=hM.YD HP.o MC IB hgi;have qR:=qR.grown hgi (own_ne hM.ri qR (by decide));clear hgi hM VC;have hM:=l5;clear l5;have c2:=hM.blk.cell 2;have c4:=hM.blk.cell 4;simp at c2 c4;refine hK.out _ _ (fun _=>⟨c2,c4⟩) ?_;clear hK K c2 c4;refine bL (i:=15) (by kernel_rfl) rfl (fun K hK=> ?_);refine iU (by rfl) _ _ _ (by rfl) (pg+1) 228 qd0 _ 1 8 underlying83 qd1 qd2 qd3 qd4 rfl (by omega) (.slice Ad LL.length cd) LL.length (ms.map fun m=>.map (some m)) (by rfl) hM.rd ⟨wu,0,none⟩ 1 1 [.map (some n0)] (by rfl) (by rfl) (aCK (cs:=#[.map (some n0)]) (t:=228) (fr:=(0,0)) qR) (by simp[aCA]) (by unfold maxLen;omega) (by omega) hM.sz ?_;intro vd w6 IC hgd;have l5:=hM.Qj HP.o MC IC hgd;clear hgd hM qR;have hM:=l5;clear l5;have c2:=hM.blk.cell 2;have c4:=hM.blk.cell 4;simp at c2 c4;refine hK.out _ _ (fun _=>⟨c2,c4⟩) ?_;clear hK K c2 c4;obtain⟨A1,c1',rfl,_⟩:=gQ IB;obtain⟨A2,c2',rfl,_⟩:=gQ IC;have c2:=hM.blk.cell 2;have c4:=hM.blk.cell 4;simp at c2 c4;have y2:=hM.blk.frozen 2;refine bL (i:=16) (by kernel_rfl) rfl (fun K hK=> ?_);go_simp;refine hK.out _ _ (fun _=>⟨c2,c4⟩) ?_;clear hK K;refine bL (i:=17) (by kernel_rfl) rfl (fun K hK=> ?_);go_simp;refine hK.out _ _ (fun _=>⟨c2,c4⟩) ?_;clear hK K;have hB2:=hM.blk.bD 2 (.slice A1 (LL.length+1) c1');have z4:=hB2.cell 4;have y4:=hB2.frozen 4;simp at z4;refine bL (i:=18) (by kernel_rfl) rfl (fun K hK=> ?_);go_simp;refine hK.out _ _ (fun h=>absurd (by simp) h) ?_;clear hK K;refine bL (i:=19) (by kernel_rfl) rfl (fun K hK=> ?_);go_simp;refine hK.out _ _ (fun h=>absurd (by simp) h) ?_;clear hK K;refine bL (i:=20) (by kernel_rfl) rfl (fun K hK=> ?_);go_simp;refine hK.out _ _ (fun h=>absurd (by simp) h) ?_;clear hK K;refine bL (i:=21) (by kernel_rfl) rfl (fun K hK=> ?_);go_simp;refine hK.out _ _ (fun h=>absurd (by simp) h) ?_;clear hK K;refine wR (by kernel_rfl) ?_ _;have hE:=hfin _ _ _ _ _ hM;clear c2 c4 y2 hB2 z4 y4 hM;rw[<-HTi.o] at hE;generalize aCI _ _ (.slice A2 (LL.length+1) c2')=wz at *;go_wp2_with fail
      go_roundg (gts.length-(i+1))
      case rel=>exact⟨i+1,_,_,_,_,_,_,_,by go_num,by have:=bZ.o;omega,aBT _,hE⟩
      case measure=>have:=bZ.o;have:=Hm.o;omega
  ·obtain rfl:i=gts.length:=(by omega);have i1:=lC gts.length;have i2:=kZ gts.length;have hil:(Sc.qB fs KK).items.length=KK.length:=(by unfold Sc.qB;simp);rw[List.take_of_length_le (by rw[HIT.o,hil,Yi.o];exact aBT _),HIT.o] at hO;obtain⟨hPh,Ki⟩:=hO.ph Hpg.o Hmb.o Hfs.o Xb.o tY.o HP.o Yf.o TA.o;have Xw:=hO.rows;have HPh:=aB hPh;have WT:=aB Xw;have hP0':=Ki;obtain⟨_,_,hB0,_⟩:=hP0';have x2:=hO.blk.cell 2;simp at x2;have Cc:=aB hO.VR;have Hil:aC ((Sc.qB fs KK).items.length<=1000):=(by show _<=_;rw[hil,<-Xb.o];exact tY.o);clear hlt hi hm hil hPh Xw hO hB0 HIT;generalize hW:Sc.qB fs KK=W at *;have HW:=aB hW;clear hW;generalize wr=w0 at *;have Hmp:aC (mb<pg):=(by show _<_;have:=Hpg.o;have:=Hmb.o;omega);go_wp2_with fail;clear x2
   go_loopg [119] W.items.length (fun mm u wx=> ∃f:Nat,u=vZZ f/\f<=W.items.length/\W.items.length-f<=mm/\IQ w0 wx pg mb (.slice A fs.length c) (.slice At gts.length ct) (.slice Ai W.items.length ci) (.slice Ad W.items.length cd) (Sc.dV W f 0))
   case atStart=>exact⟨0,rfl,aBZ _,aBT _,Ki⟩
   case round=>
    obtain⟨f,rfl,hf,hm,Xx⟩:=hrel
    by_cases hlt:f<W.items.length
    ·have GZ:=iZ f;have EB:=jJ f W.items.length;have hsf:f<ss.length:=(by rw[WT.o.sl];exact hlt);have hGf:f<GG.length:=(by rw[HPh.o.wk.gl];exact hlt);obtain⟨r,o,rfl,hr1,hr2,hrc⟩:=WT.o.ri (by rw[aCE];omega);have q0:=(aCM (a:=⟨r,o+f,none⟩) (Xx.old r hr2 (by omega) (by have:=Hmp.o;omega))).trans (hrc f (K4 ss[f]) (by rw[aDO,aBY hsf];rfl));obtain⟨hsn,hrw2⟩:=WT.o.rows f W.items[f] GG[f] ss[f] (aBY hlt) (aBY hGf) (aBY hsf);obtain⟨hgl,hits⟩:=HPh.o.wk.its f W.items[f] GG[f] (aBY hlt) (aBY hGf);have hfil:=HPh.o.wk.Uh f W.items[f] (aBY hlt);have HE:aC (Sc.dV W f W.items[f].length=Sc.dV W (f+1) 0):=Sc.wV W (aBY hlt);have c1:=uX f (by have:=Hil.o;omega);have EG:aC (W.items[f]? =some W.items[f]):=aBY hlt;have HGf:aC (GG[f]? =some GG[f]):=aBY hGf;have HGl:=aB hgl;have Hits:=aB hits;have Hfil:=aB hfil;have bZ:=aB hlt;generalize W.items[f]=l at *;generalize GG[f]=G at *;generalize ss[f]=s at *;obtain⟨sA,sn,scap⟩:=s;obtain rfl:sn=l.length:=hsn;have Hrw2:aC (fP w0 (fun b=>pg+1<=b) sA (G.map bO)):=hrw2;have Hm:=aB hm;unfold K4 at q0;clear hrc hr1 hr2 hsf hGf hgl hits hfil hlt hm hf hrw2;go_wp2_with fail;clear q0
     go_loopg [125] l.length (fun mm u wy=> ∃k:Nat,u=vZZ k/\k<=l.length/\l.length-k<=mm/\IQ w0 wy pg mb (.slice A fs.length c) (.slice At gts.length ct) (.slice (some ⟨r,o,none⟩) W.items.length ci) (.slice Ad W.items.length cd) (Sc.dV W f k))
     case atStart=>exact⟨0,rfl,aBZ _,aBT _,Xx⟩
     case round=>
      obtain⟨k,rfl,hk,hm,Z0⟩:=hrel;clear Xx
      by_cases hlt:k<l.length
      ·have jj0:=iZ k;have jj1:=jJ k l.length;have hGk:k<G.length:=(by rw[HGl.o];exact hlt);obtain⟨r2,o2,rfl,hr1,hr2,hrc⟩:=Hrw2.o (by rw[aCE];omega);have q0:=(aCM (a:=⟨r2,o2+k,none⟩) (Z0.old r2 hr2 (by omega) (by have:=Hmp.o;omega))).trans (hrc k (bO G[k]) (by rw[aDO,aBY hGk];rfl));have hx:xW W GG f k l[k] G[k]:=⟨⟨l,G,EG.o,aBY hlt,HGf.o,aBY hGk⟩⟩;have hIA:(Sc.aT W f)[k]? =some l[k]:=(by unfold Sc.aT;rw[EG.o];exact aBY hlt);have HU:=aB (Sc.GI W hIA);have HU2:=aB (Sc.yA W bZ.o (k+1));have Xg:=aB (Sc.yA W bZ.o k);have c2:=uX k (by have:=Hfil.o.1;omega);have hkd: ∃kd ks,ks∈KK/\kd∈ks/\Sc.gU kd=true/\l[k]=Sc.dZ f kd:=(by have h1:=EG.o;rw[<-HW.o] at h1;obtain⟨ks,hks,rfl⟩:=XA h1;obtain⟨kd,h2,h3,h4⟩:=CS (aBY hlt);exact⟨kd,ks,aDC hks,h2,h3,h4⟩);have Hkd:=aB hkd;have Hk:=aB hlt;have yl:=aB hm;generalize l[k]=x at *;generalize G[k]=g at *;have hit:=(HPh.o.at_ Z0).YX hx;obtain⟨_,hkind,pb,nv,Ap,cp,ev,mv,me,av,hB,hp,_⟩:=hit;obtain⟨kd,hk0,hkk⟩: ∃kd:Nat,wr.cell? ⟨pb,0,none⟩=some (vZZ kd)/\Sc.kindOf x.part=kd:=by
        cases hpt:x.part with
        |leaf a b d=>rw[hpt] at hp;obtain⟨g,e,_⟩:=hp;injection e with e;exact absurd e (by decide)
        |gap a b d=>rw[hpt] at hp;obtain⟨g,e,_⟩:=hp;injection e with e;exact absurd e (by decide)
        |branch a b d=>rw[hpt] at hp;obtain⟨q',e,_,Ab,cb,vb,hBb,_⟩:=hp;injection e with _ e;injection e with e;injection e with e;injection e with e;subst e;have:=hBb.cell 0;exact⟨a,by simpa using this,rfl⟩
       have b2:=hB.cell 2;simp[kW] at b2;have hdf:=TN (g:=g) b2 hk0;have hkb:(kd==4)=x.bH:=(by rw[<-hkk,hkind];cases x.bH<;>rfl);rw[hkb] at hdf;clear hB hp b2 hk0 hkb hkk hkind hrc hr1 hr2 hlt hm hk hIA hkd;unfold bO at *;cases hd:x.bH with
       |true=>
        rw[hd] at hdf;have hU:Sc.fT W f k x=Sc.PK W f k x:=by unfold Sc.fT;rw[hd];rfl
        have hdo:Xo x:=(by obtain⟨kd,ks,h1,h2,h3,h4⟩:=Hkd.o;rw[h4] at hd⊢;obtain⟨h5,h6,h7⟩:=(Yf.o ks h1).kids kd h2 h3;exact LZ h5 h6 h7 (by have h8:(Sc.kindOf kd.part==4)=true:=hd;simpa using h8));have hlen:(Sc.dV W f k++Sc.PK W f k x).length+1000000<=1000000000:=(by rw[<-hU,<-HU.o];have:=HU2.o;have:=Hus.o;omega);have HU4:aC (Sc.dV W f (k+1)=Sc.dV W f k++Sc.PK W f k x):=(by show _=_;rw[<-hU];exact HU.o);have Hlen:=aB hlen;have Hdo:=aB hdo;clear hd hU hlen hdo HU;go_wp2_with fail;refine hdf.mono ?_;clear hdf q0;rintro e5 w5 ⟨rfl,hd5⟩;have OZ:=Z0.below hd5;have hcd:=Zh HPh.o OZ hx Hdo.o Hlen.o;unfold bO at hcd;clear Z0 hd5 OZ;go_wp2_with fail;refine hcd.mono ?_;clear hcd;rintro e6 w6 ⟨rfl,FN,_⟩;rw[<-HU4.o] at FN;go_wp2_with fail
        go_roundg (l.length-(k+1))
        case rel=>exact⟨k+1,by go_num,by have:=Hk.o;omega,aBT _,FN⟩
        case measure=>have:=Hk.o;have:=yl.o;omega
       |false=>
        rw[hd] at hdf;have hU:Sc.fT W f k x=Sc.EM W f k x:=by unfold Sc.fT;rw[hd];rfl
        have hlow: ∀y:Sc.Wd,(x.mo=some y\/x.me=some y\/x.al=some y)->y.at_<=1000000000:=(by obtain⟨kd,ks,h1,h2,h3,h4⟩:=Hkd.o;obtain⟨h5,h6,h7⟩:=(Yf.o ks h1).kids kd h2 h3;intro y hy;rw[h4] at hy;exact(LY (n:=f) h6 y (.inr hy)).1);have PU:=aB hlow;have HU4:aC (Sc.dV W f (k+1)=Sc.dV W f k++Sc.EM W f k x):=(by show _=_;rw[<-hU];exact HU.o);have Hlen:aC ((Sc.dV W f k).length+1000000<=1000000000):=(by show _<=_;have:=Xg.o;have:=Hus.o;omega);clear hd hU hlow HU;go_wp2_with fail;refine hdf.mono ?_;clear hdf q0;rintro e5 w5 ⟨rfl,hd5⟩;have OZ:=Z0.below hd5;have hcd:=zw HPh.o OZ hx PU.o Hlen.o;unfold bO at hcd;clear Z0 hd5 OZ;go_wp2_with fail;refine hcd.mono ?_;clear hcd;rintro e6 w6 ⟨rfl,FN,_⟩;rw[<-HU4.o] at FN;go_wp2_with fail
        go_roundg (l.length-(k+1))
        case rel=>exact⟨k+1,by go_num,by have:=Hk.o;omega,aBT _,FN⟩
        case measure=>have:=Hk.o;have:=yl.o;omega
      ·obtain rfl:k=l.length:=(by omega);have i1:=lC l.length;have i2:=kZ l.length;rw[HE.o] at Z0;clear hlt hm hk;go_wp2_with fail
       go_roundg (W.items.length-(f+1))
       case rel=>exact⟨f+1,by go_num,by have:=bZ.o;omega,aBT _,Z0⟩
       case measure=>have:=bZ.o;have:=Hm.o;omega
    ·obtain rfl:f=W.items.length:=(by omega);have i1:=lC W.items.length;have i2:=kZ W.items.length;rw[Sc.JZ] at Xx;clear hlt hm hf;go_wp2_with fail;go_ret;have hwg:w.heap.size<=pg:=(by have:=Hpg.o;omega);have hbel:Below w.heap.size w wr:=(by refine⟨Xx.calm.os.trans Cc.o.os,Xx.calm.tape.trans Cc.o.tape,Xx.calm.output.trans Cc.o.output,aBV Cc.o.size Xx.size,fun b hb=> ?_⟩;rw[Xx.old b (aCF hb Cc.o.size) (by omega) (by have:=Hmb.o;omega)];exact Cc.o.block b hb);exact⟨pg,rfl,w0,mb,GG,Ai,ci,Ad,cd,ss,hwg,hbel,by rw[HW.o];exact HPh.o,by rw[HW.o];exact WT.o,by rw[HW.o];exact Xx,Cc.o,HP.o⟩
end
end Go.Proofs.YtcjjfeephaddcaaGreatDoor
