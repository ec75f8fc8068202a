import Derived.Test.YtcjjfeephaddcaaGreatDoorJak
import Derived.Sort.CutIn
import Derived.RangeFuncNested
import Derived.RangeFuncBound
import Derived.RangeFuncCalls
import Derived.RangeFuncLeaves
import Derived.OwnWalkIn
import Derived.TacticsInMore
import Derived.LoopNIn
import Derived.LoopIn
import Derived.LaidEqlPtr
set_option linter.all false
open Go.Proofs.Tryz renaming prog->aBS
open Go.RowKit.Below renaming refl->aBU
open Go.World renaming block_lt_of_cell?->aDA,size_alloc->aDD
open List renaming length_append->aBW,getElem?_eq_getElem->aBY,append_assoc->aCL,getElem_mem->aCR,cons_append->aCT,length_take->aCY,any_eq_true->aEI,mem_cons_of_mem->aEK,flatMap_cons->aEU
open Nat renaming le_refl->aBT,le_trans->aBV,zero_le->aBZ,lt_of_lt_of_le->aCF,lt_or_ge->aCN
set_option maxHeartbeats 64000000
set_option maxRecDepth 100000
open Go.Proofs.Tryz
namespace Go.Proofs.YtcjjfeephaddcaaGreatDoor
open Go.RowKit Go.Maps
variable{w w':World}{Fn c g mb pg:Nat}{caps cs:Array Value}{u:Sc.Us}{F:Nat->Prop}{A:Option Addr}{ws:List (Option Sc.Wd)}
theorem aAq:(aBS.info? 31).map (fun i=>(i.zero,i.size,i.bytes))=some (some (.agg qA),6,48):=by kernel_rfl
theorem Calm.grown {row:Option Nat}(h:w.grownBy w' row):Calm w w':=⟨h.os,h.tape,h.output⟩
theorem Calm.drew (h:Calm w w'):Calm w w'.drew:=⟨h.os,h.tape,h.output⟩
theorem fF(w:World)(b i:Nat)(v:Value):w.grownBy (w.setCell ⟨b,i,none⟩ v) (some b):=
 ⟨(Calm.set w _ v).os,(Calm.set w _ v).tape,(Calm.set w _ v).output,by simp[World.setCell],fun k _ hk=>Below.heap_setCell w ⟨b,i,none⟩ v k fun e=>hk (by rw[e])⟩
def aD(T:List TypeId)(w w':World):Prop:= ∀(k:Nat) (cs:Array Value) (t:TypeId) (fr:Nat×Nat),w.heap[k]? =some (.cells cs t fr)->t∉T->w'.heap[k]? =some (.cells cs t fr)
section
variable{T:List TypeId}{w w1 w':World}
theorem aD.refl (T:List TypeId)(w:World):aD T w w:=fun _ _ _ _ h _=>h
theorem aD.trans (h:aD T w w1)(h':aD T w1 w'):aD T w w':=fun k cs t fr hk ht=>h' k cs t fr (h k cs t fr hk ht) ht
theorem aD.below (hd:Below w.heap.size w w'):aD T w w':=fun k _ _ _ hk _=>(hd.block k (qX hk)).trans hk
theorem aD.drew (h:aD T w w'):aD T w w'.drew:=h
theorem aD.grown {row:Option Nat}(hg:w.grownBy w' row)(hr: ∀g cs t fr,row=some g->w.heap[g]? =some (.cells cs t fr)->t∈T):aD T w w':=fun k cs t fr hk ht=>
 (hg.block k (qX hk) fun e=>ht (hr k cs t fr e.symm hk)).trans hk
theorem aV.aG {t:TypeId}(h:aV w g t cs)(hk:aD T w w')(ht:t∉T):aV w' g t cs:=hk g cs t (0,0) h ht
end
def Xp(w0 w:World)(pg mb:Nat)(fs ts is fd:Value)(us:List Sc.Us)(e:Ending)(w':World):Prop:=e=.returned (.tuple #[])/\IQ w0 w' pg mb fs ts is fd us/\aD [86,31] w w'
theorem nV{b n:Nat}{t:TypeId}{fr:Nat×Nat}{k:TypeId}{R:Value->Option (DataW Unit×List MemPlace)}{D:DataW Unit}(h:w.ownsMap aBS k R mb n D)(hB:w.heap[b]? =some (.cells cs t fr)):b≠mb:=fun e=>by
 subst e;obtain⟨es,clock,hb,_⟩:=h;rw[hb] at hB;cases hB
def PY(pg r:Nat)(v:Value)(u:Sc.Us)(w':World):Prop:=
 w'.cell? ⟨pg,3,none⟩=some v/\w'.cell? ⟨r,0,none⟩=some (kZZ (u.file:Int))/\w'.cell? ⟨r,1,none⟩=some (kZZ (u.at_:Int))/\w'.cell? ⟨r,2,none⟩=some (kZZ (u.Vr:Int))/\
 w'.cell? ⟨r,3,none⟩=some (kZZ u.zV)/\w'.cell? ⟨r,4,none⟩=some (kZZ u.oJ)/\w'.cell? ⟨r,5,none⟩=some (kZZ (u.err:Int))
theorem PY.of {r:Nat}{v:Value}{t:TypeId}(hB:aV w pg t cs)(hv:cs[3]? =some v)(hr:aV w r 31 (iT u)):PY pg r v u w:=by
 obtain⟨⟨k0,k1,k2,k3,k4,k5⟩,_⟩:=aX hr;exact⟨(hB.cell 3).trans hv,k0,k1,k2,k3,k4,k5⟩
theorem vD{w0:World}{fs ts is fd:Value}{us:List Sc.Us}(h:IQ w0 w pg mb fs ts is fd us)(hf:u.file<=1000000000)(ha:u.at_<=1000000000)(hl:us.length<=1000000000):
  Calls aBS 166 #[pZZ pg,.agg (iT u)] w (Xp w0 w pg mb fs ts is fd (us++[u])):=by
 obtain⟨i0,ji,iW,jz1,iV⟩:=info_parts aAq;obtain⟨kl,hkl⟩:=Iy (f:=u.file) (a:=u.at_) (by omega) (by omega);have hwl:=Oj (a:=us.length) (by omega);obtain⟨hd1,hr⟩:=uS w 31 (iT u);have h1:=h.below hd1;obtain⟨r,hr0⟩:=dC w.heap.size;have Hwr:aC (∀A c,w.ownsRow w0.heap.size 31 6 (.slice A us.length c) us.length (us.flatMap fun u=>(iT u).toList)->∀k,(Value.slice A us.length c).ownBlock=some k->k<r):=fun A c ho k hk=>by rw[hr0];exact(ho.lt k hk).2
 obtain⟨A,c,hB0,ho0⟩:=h.blk;have Hor:=aB (Hwr.o A c ho0);have Hbr:aC (pg<r):=by show _<_;rw[hr0];exact hB0.lt
 have Hzr:aC (w0.heap.size<=r):=by show _<=_;rw[hr0];exact h.size
 have hB1:=hB0.below hd1 hB0.lt;have ho1:=aM ho0 fun k hk=>hd1.block k (ho0.lt k hk).2
 rw[<-hr0] at hr;have hl0:=aB hl;have hc1:aD [86,31] w (w.alloc (.cells (iT u) 31)):=aD.below hd1;clear h hB0 ho0 Hwr hd1 hl
 go_enter func166,ntmps166
 go_upto_region 1 with fail;rw[<-hr0];have hsz1:=aDD w (.cells (iT u) 31);rw[<-hr0] at hsz1;have Hsz1:=aB hsz1;clear hr0 hsz1;generalize w.alloc _=w1 at *;have hr1:=hr;unfold iT at hr1;obtain⟨⟨k0,k1,k2,k3,k4,k5⟩,_⟩:=aX hr1;have p5:=hB1.cell 5;have p3:=hB1.cell 3;simp at p5 p3;obtain⟨D,hm1⟩:=h1.map;have hne:=nV hm1 hB1;have hrn:=nV hm1 hr
 go_still_tail 14,(by kernel_rfl)
 change wpList _ _ _ _ _ w1.drew;have hm2:w1.drew.ownsMap aBS 325 (plainElem aBS 3) mb us.length D:=hm1;go_wp2_with (at_mapUpdate;refine wpList_mapUpdate_own w1.drew rfl _ _ _ 84 rfl 325 3 Ql underlying84 _ mb us.length D rfl hm2 (by have:=hl0.out;unfold maxLen;omega) _ _ _ rfl rfl hkl _ [] (plainElem_int underlying3 hwl) ?_;intro w2 hm3 hg2);have hB2:aV w2 pg 86 #[fs,ts,is,.slice A us.length c,fd,.map (some mb)]:=aV.grown (w:=w1.drew) hB1 hg2 (by simpa using hne);have hr2:aV w2 r 31 (iT u):=aV.grown (w:=w1.drew) hr hg2 (by simpa using hrn);have ho2:w2.ownsRow w0.heap.size 31 6 (.slice A us.length c) us.length (us.flatMap fun u=>(iT u).toList):=aM (w:=w1.drew) ho1 fun k hk=>by obtain⟨cs,fr,h3⟩:=eU ho1 k hk;exact hg2.block k (ho1.lt k hk).2 (by have:=nV hm1 h3;simpa using this)
 have uj: ∀x,x<w0.heap.size->x≠pg->x≠mb->w2.heap[x]? =w0.heap[x]? :=fun x hx n1 n2=>(hg2.block x (aCF hx h1.size) (by simpa using n2)).trans (h1.old x hx n1 n2)
 have Td:Calm w0 w2:=(Calm.drew h1.calm).trans (Calm.grown hg2);have hc2:=(aD.drew hc1).trans (aD.grown hg2 fun g cs t fr e hk=>by injection e with e;exact absurd e.symm (nV hm1 hk));have hsz2:w0.heap.size<=w2.heap.size:=aBV h1.size hg2.size;have hpl:=aB h1.pl;have hml:=aB h1.ml;have Hne:=aB hne;have Hgr:aC (w1.heap.size<=w2.heap.size):=hg2.size;have Wy:aC (w1.heap.size=r+1):=Hsz1;clear hc1 h1 hB1 ho1 hm1 hm2 hr hr1 k0 k1 k2 k3 k4 k5 p5 p3 hg2 hrn hne;refine aL 10 (PY pg r (.slice A us.length c) u) ?_;have hB3:=hB2.drew;have hr3:=hr2.drew;have ho3:w2.drew.ownsRow w0.heap.size 31 6 (.slice A us.length c) us.length (us.flatMap fun u=>(iT u).toList):=ho2;have ZN: ∀x,x<w0.heap.size->x≠pg->x≠mb->w2.drew.heap[x]? =w0.heap[x]? :=uj;have MO:=Calm.drew Td;have hc3:=aD.drew hc2;have ZH:w0.heap.size<=w2.drew.heap.size:=hsz2;have O_:w2.drew.ownsMap aBS 325 (plainElem aBS 3) mb (us.length+1) _:=hm3;have Hr3:aC (r<w2.drew.heap.size):=by have:=Wy.o;have:=Hgr.o;show r<w2.heap.size;omega
 clear hc2 hB2 hr2 ho2 uj Td hsz2 hm3 Hgr;generalize w2.drew=w3 at *;have hS0:PY pg r (.slice A us.length c) u w3:=PY.of hB3 rfl hr3
 iterate 6 refine aO 0 hS0 ?_
 clear hS0;have hB4:=hB3.alloc (.cells (iT u) 31);have hr4:=hr3.alloc (.cells (iT u) 31);have IJ:=aB (PY.of hB4 (v:=.slice A us.length c) rfl hr4);clear hB4 hr4;unfold iT at IJ;refine aA 6 fun C hC=> ?_
 go_simp;refine hC.out _ _ (fun _=>IJ.out) ?_;clear hC C;have Hq:=aB (aDD w3 (.cells (iT u) 31));refine aA 7 fun C hC=> ?_
 refine lT w3 (by rfl) _ _ 24 (by rfl) w0.heap.size 31 6 48 underlying24 ji iW jz1 iV rfl (by omega) (by rfl) ho3 (iT u) (by rfl) rfl (by simp[iT,Value.oneCell']) hl0.out (by omega) ZH ?_;intro A' c' w5 FL hd5 hg5;have rE:aV w5 pg 86 #[fs,ts,is,.slice A us.length c,fd,.map (some mb)]:=hB3.grown hg5 (own_ne ho3 hB3 (by decide));have JL:aV w5 r 31 (iT u):=hr3.grown hg5 fun e=>by have:=Hor.o r e.symm;omega
 have hS5:=aB (PY.of rE (v:=.slice A us.length c) rfl JL);have hm5:=O_.kept hg5 fun e=>by obtain⟨cs,fr,h3⟩:=eU ho3 mb e.symm;exact nV O_ h3 rfl
 have ZM: ∀x,x<w0.heap.size->x≠pg->x≠mb->w5.heap[x]? =w0.heap[x]? :=fun x hx n1 n2=>(hd5.block x hx).trans (ZN x hx n1 n2)
 have ve:=hc3.trans (aD.grown hg5 fun g cs t fr e hk=>by obtain⟨cs',fr',h3⟩:=eU ho3 g e;rw[hk] at h3;injection h3 with h3;injection h3 with _ h3 _;simp[h3]);have MN:=MO.trans (Calm.below hd5);have hsz5:=aBV ZH hd5.size;refine hC.out _ _ (fun _=>hS5.out) ?_;clear hc3 hC C hB3 hr3 ho3 ZN MO ZH O_ IJ hd5 hg5 JL;refine aA 8 fun C hC=> ?_
 go_simp;refine hC.out _ _ (fun _=>hS5.out) ?_;clear hC C;refine aA 9 fun C hC=> ?_
 go_simp;refine hC.out _ _ (fun _=>hS5.out) ?_;clear hC C;have p3:=rE.cell 3;have y3:=rE.frozen 3;simp at p3;refine aA 10 fun C hC=> ?_
 go_simp;refine hC.out _ _ (fun h=>absurd rfl h) ?_;clear hC C;refine aR ?_;have K6:=rE.bD 3 (.slice A' (us.length+1) c');simp at K6;have xH:=fF w5 pg 3 (.slice A' (us.length+1) c');have ho6:=aM FL fun k hk=>xH.block k (FL.lt k hk).2 fun e=>by injection e with e;have:=(FL.lt k hk).1;have:=hpl.out;omega
 have hm6:=hm5.kept xH (by simpa using Ne.symm Hne.o);have Sq: ∀x,x<w0.heap.size->x≠pg->x≠mb->(w5.setCell ⟨pg,3,none⟩ (.slice A' (us.length+1) c')).heap[x]? =w0.heap[x]? :=fun x hx n1 n2=>(xH.block x (aCF hx hsz5) (by simpa using n1)).trans (ZM x hx n1 n2)
 have hc6:=ve.trans (aD.grown xH fun g cs t fr e hk=>by injection e with e;subst e;unfold aV at rE;rw[hk] at rE;injection rE with h3;injection h3 with _ h3 _;simp[h3]);have Y6:=MN.trans (Calm.grown xH);have X5:=aBV hsz5 xH.size;clear ve rE FL hm5 ZM MN hsz5 p3 y3 hS5 xH;go_wp2_with fail;go_end0;refine⟨rfl,⟨X5,Sq,Y6,⟨A',c',?_,?_⟩,⟨D.put kl (.lit (.int .i64 (us.length:Int))),?_⟩,hpl.out,hml.out⟩,hc6⟩
 ·rw[aBW];exact K6
 ·rw[aBW,List.flatMap_append,List.flatMap_singleton];exact ho6
 ·rw[aBW];exact hm6
def OP(w:World)(F:Nat->Prop)(A:Option Addr)(ws:List (Option Sc.Wd)):Prop:= ∃vs,fP w F A vs/\jX w F ws vs
section
variable{w w':World}{F F':Nat->Prop}{A:Option Addr}{ws:List (Option Sc.Wd)}
theorem OP.at_ (h:OP w F A ws){j:Nat}(hj:j<ws.length): ∃br o v,A=some ⟨br,o,none⟩/\F br/\br<w.heap.size/\w.cell? ⟨br,o+j,none⟩=some v/\wI w F ws[j] v:=by
 obtain⟨vs,hr,hw⟩:=h;obtain⟨v,hv,hx⟩:=hw.at_ hj;obtain⟨br,o,e,hF,hl,hc⟩:=hr (by have:=hw.len;omega);exact⟨br,o,v,e,hF,hl,hc _ _ hv,hx⟩
theorem jX.take (n:Nat): ∀{l:List (Option Sc.Wd)} {vs:List Value},jX w F l vs->jX w F (l.take n) (vs.take n):=by
 induction n with
 |zero=>intro l vs _;simp[jX]
 |succ n ih=>
  intro l vs h;cases l with
  |nil=>have:vs=[]:=h;subst this;exact rfl
  |cons x l=>obtain⟨v,vs',rfl,hx,hl⟩:=h;exact⟨v,vs'.take n,rfl,hx,ih hl⟩
theorem OP.take (h:OP w F A ws)(n:Nat):OP w F A (ws.take n):=by
 obtain⟨vs,hr,hw⟩:=h;refine⟨vs.take n,fun hn=> ?_,hw.take n⟩;rw[aCY] at hn;obtain⟨br,o,e,hF,hl,hc⟩:=hr (by omega);refine⟨br,o,e,hF,hl,fun j u hu=>hc j u ?_⟩;rw[List.getElem?_take] at hu;split at hu
 ·exact hu
 ·cases hu
theorem OP.keep (hs:w.heap.size<=w'.heap.size)(hk: ∀b,F b->b<w.heap.size->w'.heap[b]? =w.heap[b]? /\F' b)(h:OP w F A ws):OP w' F' A ws:=by
 obtain⟨vs,hr,hw⟩:=h;exact⟨vs,hr.keep hs hk,hw.keep hk⟩
theorem OP.below (h:OP w F A ws)(hd:Below w.heap.size w w'):OP w' F A ws:=h.keep hd.size fun b hF hl=>⟨hd.block b hl,hF⟩
end
theorem wI.aG {T:List TypeId}{x:Option Sc.Wd}{u:Value}(h:wI w F x u)(hk:aD T w w')(ht:237∉T):wI w' F x u:=by
 cases x with
 |none=>exact h
 |some x=>obtain⟨g,e1,hF,hB⟩:=h;exact⟨g,e1,hF,hB.aG hk ht⟩
theorem jX.aG {T:List TypeId}: ∀{l:List (Option Sc.Wd)} {us:List Value},jX w F l us->aD T w w'->237∉T->jX w' F l us
 | [],_,h,_,_=>h
 |x::l,us,h,hk,ht=>by obtain⟨u,Yr,e1,hx,hl⟩:=h;exact⟨u,Yr,e1,hx.aG hk ht,jX.aG hl hk ht⟩
def rX(b:Bool)(w:World)(e:Ending)(w':World):Prop:=e=.returned (.bool b)/\Below w.heap.size w w'
def Sc.xK (t:Bs)(x:Option Sc.Wd):Bool:=match x with|some v=>v.text==t|none=>false
theorem Ie{x:Option Sc.Wd}{v:Value}(hx:wI w F x v){bx:Nat}{y:Sc.Wd}(hb:w.cell? ⟨bx,0,none⟩=some (pZZ g))(hg:aV w g 237 #[.string ⟨y.text.toArray⟩,kZZ (y.at_:Int)]):
  Calls aBS 210 #[v,pZZ bx] w (rX (Sc.xK y.text x) w):=by
 have g0:=hg.cell 0;simp at g0;clear hg;cases x with
 |none=>
  obtain rfl:v=oZZ:=hx
  go_enter func210,ntmps210
  go_wp2_with fail
  go_quiet (fail)
  go_wp2_with fail;go_ret;exact⟨rfl,below_drewN (aBU _ _) _⟩
 |some x=>
  obtain⟨q,rfl,hF,hB⟩:=hx;have b0:=hB.cell 0;simp at b0;clear hB;have HT:aC (Sc.xK y.text (some x)=(x.text==y.text)):=rfl
  go_enter func210,ntmps210
  go_wp2_with fail
  go_quiet (fail)
  go_wp2_with fail;go_ret;rw[HT.o];exact⟨rfl,below_drewN (aBU _ _) _⟩
def Sc.rU {α:Type}(P:α->Bool)(l:List α):Int:=if l.any P then((l.findIdx P:Nat):Int)else-1
theorem Sc.UR {α:Type}{P:α->Bool}{l:List α}{i:Nat}(hi:i<l.length)(h:P l[i]=true)(hb: ∀j (hj:j<l.length),j<i->P l[j]=false):Sc.rU P l=(i:Int):=by
 unfold Sc.rU;rw[if_pos (aEI.2 ⟨_,aCR hi,h⟩),(List.findIdx_eq hi).2 ⟨h,fun j hj=>by simpa using hb j (by omega) hj⟩]
theorem Sc.CV {α:Type}{P:α->Bool}{l:List α}(hb: ∀j (hj:j<l.length),P l[j]=false):Sc.rU P l= -1:=by
 unfold Sc.rU;rw[if_neg];intro h;obtain⟨x,hx,hp⟩:=aEI.1 h;obtain⟨j,hj,rfl⟩:=List.getElem_of_mem hx;rw[hb j hj] at hp;cases hp
theorem Sc.UT {α:Type}(P:α->Bool)(l:List α):decide (Sc.rU P l≥0)=l.any P:=by
 unfold Sc.rU;cases l.any P with
 |true=>simp
 |false=>rfl
def Ms(i:Int)(w:World)(e:Ending)(w':World):Prop:=e=.returned (kZZ i)/\Below w.heap.size w w'
theorem Za{c:Nat}(hr:OP w F A ws)(hl:ws.length<=1000000000){Fn:Nat}{caps:Array Value}{P:Option Sc.Wd->Bool}
  (hrun: ∀(args:Array Value) (w:World),(callFunc Fn args).run aBS w=.ok (.enter Fn args) w)
  (hcl: ∀(x:Option Sc.Wd) (v:Value) (w':World),Below w.heap.size w w'->wI w' F x v->Calls aBS Fn (#[v]++caps) w' (rX (P x) w')):
  Calls aBS 236 #[.slice A ws.length c,.func (.func Fn) #[] caps] w (Ms (Sc.rU P ws) w):=by
 have Hl:=aB hl;clear hl
 go_enter func236,ntmps236
 go_wp2_with fail
 go_loopg [8] ws.length (fun m v wr=> ∃i:Nat,v=vZZ i/\i<=ws.length/\ws.length-i<=m/\aC (∀j (hj:j<ws.length),j<i->P ws[j]=false)/\Below w.heap.size w wr)
 case atStart=>exact⟨0,rfl,aBZ _,aBT _,fun j _ h=>absurd h (by omega),aBU _ _⟩
 case round=>
  obtain⟨i,rfl,hi,hm,HB,hd⟩:=hrel
  by_cases hlt:i<ws.length
  ·have GZ:=iZ i;have EB:=jJ i ws.length;obtain⟨br,o,v,rfl,hF,hbl,hc,hx⟩:=hr.at_ hlt;have q0:=(hd.cell (p:=⟨br,o+i,none⟩) hbl).trans hc;have hcl:=hcl ws[i] v wr hd (hx.below hd);have c1:=uX i (by have:=Hl.o;omega);have HX:aC (P ws[i]=P ws[i]):=rfl;have HE:aC (P ws[i]=true->Sc.rU P ws=(i:Int)):=fun h=>Sc.UR hlt h HB.o
   have HN:aC (P ws[i]=false->∀j (hj:j<ws.length),j<i+1->P ws[j]=false):=fun h j hj hji=>by
    rcases aCN j i with h'|h'
    ·exact HB.o j hj h'
    ·obtain rfl:j=i:=(by omega);exact h
   have bZ:=aB hlt;have Hm:=aB hm;obtain⟨pp,rfl⟩:=hx.ptr;have hsz:=aB hd.size;clear HX;generalize P ws[i]=b at *;generalize ws[i]=x at *;generalize Sc.rU P ws=R at *;clear hx hc hbl hlt hm hi HB;cases b with
   |true=>obtain rfl:=HE.o rfl;clear HE HN;go_wp2_with fail;refine hcl.mono ?_;clear hcl q0;rintro e w1 ⟨rfl,hd1⟩;go_wp2_with fail;go_ret;exact⟨rfl,hd.trans (hd1.mono hsz.out)⟩
   |false=>
    clear HE;go_wp2_with fail;refine hcl.mono ?_;clear hcl q0;rintro e w1 ⟨rfl,hd1⟩;go_wp2_with fail
    go_roundg (ws.length-(i+1))
    case rel=>exact⟨i+1,by go_num,by have:=bZ.o;omega,aBT _,(by first|exact HN.o trivial|exact HN.o rfl),hd.trans (hd1.mono hsz.out)⟩
    case measure=>have:=bZ.o;have:=Hm.o;omega
  ·obtain rfl:i=ws.length:=(by omega);have i1:=lC ws.length;have i2:=kZ ws.length;have HR:=aB (Sc.CV fun j hj=>HB.o j hj hj);clear hlt hi hm HB;go_wp2_with fail;go_ret;rw[HR.o];exact⟨rfl,hd⟩
theorem Zb{c:Nat}(hr:OP w F A ws)(hl:ws.length<=1000000000){Fn:Nat}{caps:Array Value}{P:Option Sc.Wd->Bool}
  (hrun: ∀(args:Array Value) (w:World),(callFunc Fn args).run aBS w=.ok (.enter Fn args) w)
  (hcl: ∀(x:Option Sc.Wd) (v:Value) (w':World),Below w.heap.size w w'->wI w' F x v->Calls aBS Fn (#[v]++caps) w' (rX (P x) w')):
  Calls aBS 209 #[.slice A ws.length c,.func (.func Fn) #[] caps] w (rX (ws.any P) w):=by
 have hi:=Za (c:=c) hr hl hrun hcl;have HA:=aB (Sc.UT P ws);generalize Sc.rU P ws=i at *;generalize ws.any P=b at *;clear hr hl hrun hcl
 go_enter func209,ntmps209
 go_wp2_with fail;refine hi.mono ?_;clear hi;rintro e w1 ⟨rfl,hd⟩;go_wp2_with fail;go_ret;exact⟨by rw[<-HA.o];rfl,hd⟩
theorem Sc.AP (f:Nat): ∀(l m ahead:List (Option Sc.Wd)),Sc.aY f ahead (l++m)=Sc.aY f ahead l++Sc.aY f (ahead++l) m
 | [],m,ahead=>by simp[Sc.aY]
 |none::l,m,ahead=>by
  rw[aCT]
  conv=>lhs;unfold Sc.aY
  conv=>rhs;lhs;unfold Sc.aY
  rw[Sc.AP f l m,aCL];rfl
 |some w::l,m,ahead=>by
  rw[aCT]
  conv=>lhs;unfold Sc.aY
  conv=>rhs;lhs;unfold Sc.aY
  rw[Sc.AP f l m,aCL];rfl
theorem Sc.GR (f:Nat)(l:List (Option Sc.Wd))(i:Nat)(h:i<l.length):Sc.aY f [] (l.take (i+1))=Sc.aY f [] (l.take i)++(match l[i] with|some w=>[Sc.dM f w.at_ 1 ((l.take i).any (Sc.xK w.text))]|none=>[]):=by
 rw[List.take_succ_eq_append_getElem h,Sc.AP,List.nil_append]
 congr 1
 cases l[i] with
 |none=>rfl
 |some w=>rfl
theorem Sc.rM (f:Nat): ∀(l ahead:List (Option Sc.Wd)),(Sc.aY f ahead l).length<=l.length
 | [],_=>aBT _
 |none::l,ahead=>by unfold Sc.aY;exact Nat.le_succ_of_le (Sc.rM f l _)
 |some w::l,ahead=>by unfold Sc.aY;exact Nat.succ_le_succ (Sc.rM f l _)
theorem QK{w0:World}{fs ts is fd:Value}{us:List Sc.Us}(h:IQ w0 w pg mb fs ts is fd us){f:Nat}(hr:OP w F A ws)(hty: ∀br o,A=some ⟨br,o,none⟩->0<ws.length->∃cs fr,w.heap[br]? =some (.cells cs 231 fr))(hf:f<=1000000000)(hat: ∀x,some x∈ws->x.at_<=1000000000)(hl:us.length+ws.length<=1000000000)(hcap:ws.length<=c):
  Calls aBS 168 #[pZZ pg,vZZ f,.slice A ws.length c] w (Xp w0 w pg mb fs ts is fd (us++Sc.aY f [] ws)):=by
 have Hl:=aB hl;have Hf:=aB hf;clear hl hf
 go_enter func168,ntmps168
 go_wp2_with fail
 go_loopg [11] ws.length (fun m v wr=> ∃i:Nat,v=vZZ i/\i<=ws.length/\ws.length-i<=m/\IQ w0 wr pg mb fs ts is fd (us++Sc.aY f [] (ws.take i))/\aD [86,31] w wr)
 case atStart=>exact⟨0,rfl,aBZ _,aBT _,by simpa [Sc.aY] using h,aD.refl _ _⟩
 case round=>
  obtain⟨i,rfl,hi,hm,hP,hK⟩:=hrel
  by_cases hlt:i<ws.length
  ·have GZ:=iZ i;have EB:=jJ i ws.length;have hT:=aB (Sc.GR f ws i hlt);have c1:=uX i (by have:=Hl.o;omega);have hln:aC ((us++Sc.aY f [] (ws.take i)).length<=1000000000):=(by have h1:=Sc.rM f (ws.take i) [];rw[aCY] at h1;have:=Hl.o;show _<=_;rw[aBW];omega);have hr2:OP wr F A ws:=by
    obtain⟨vs,h1,h2⟩:=hr;refine⟨vs,fun hn=> ?_,?_⟩
    ·obtain⟨br,o,e,hF,hl,hc⟩:=h1 hn;obtain⟨cs,fr,hb⟩:=hty br o e (by omega);have hb2:=hK br cs _ fr hb (by decide);refine⟨br,o,e,hF,qX hb2,fun j u hu=> ?_⟩;rw[World.cell?_of_block (w:=w) (a:=⟨br,o+j,none⟩) (hb2.trans hb.symm)];exact hc j u hu
    ·exact jX.aG h2 hK (by decide)
   obtain⟨br,o,v,rfl,hF,hbl,hc,hx⟩:=hr2.at_ hlt;have hat:=hat;have hxm: ∀x,ws[i]=some x->x.at_<=1000000000:=fun x e=>hat x (e▸aCR hlt)
   have hrt:=hr2.take i;have hwl:(ws.take i).length=i:=(by rw[aCY];omega);have Fu:=aB hwl;obtain⟨pp,rfl⟩:=hx.ptr;obtain⟨hd1,hbx⟩:=uS wr 231 #[.pointer pp];have hP1:=hP.below hd1;have hK1:=hK.trans (aD.below hd1);have hrt1:=hrt.below hd1;have hx1:=hx.below hd1;obtain⟨bx,hbx0⟩:=dC wr.heap.size;rw[<-hbx0] at hbx;have bZ:=aB hlt;have Hm:=aB hm;generalize ws[i]=x at *;generalize hwt:ws.take i=wt at *;generalize ZE:us++Sc.aY f [] wt=u1 at *;clear hwt hP hK hr2 hx hrt hd1 hbl hlt hm hi hwl;have hcp:(i:Int)<=(c:Int):=(by have:=bZ.o;omega);have hcp2:i<=c:=(by have:=bZ.o;omega);go_upto_if 17 with fail;rw[<-hbx0];clear hc;generalize wr.alloc _=w2 at *;clear hbx0;cases x with
   |none=>
    obtain rfl:pp=none:=(by have h:Value.pointer pp=oZZ:=hx1;injection h);have HT:aC (Sc.aY f [] (ws.take (i+1))=Sc.aY f [] wt):=(by show _=_;rw[hT.out,List.append_nil]);clear hT;go_wp2_with fail
    go_roundg (ws.length-(i+1))
    case rel=>exact⟨i+1,by go_num,by have:=bZ.o;omega,aBT _,by rw[HT.o,ZE];exact hP1,hK1⟩
    case measure=>have:=bZ.o;have:=Hm.o;omega
   |some y=>
    obtain⟨g,e,hFg,hgB⟩:=hx1;injection e with e;subst e;have hyat:=aB (hxm y rfl);have hany:=Zb (c:=c) hrt1 (by rw[Fu.o];have:=Hl.o;have:=bZ.o;omega) (Fn:=210) (caps:=#[pZZ bx]) (P:=Sc.xK y.text) (fun _ _=>by kernel_rfl)
     (fun x v w' hd hx=>Ie hx (bx:=bx) (g:=g) (y:=y) ((hd.cell (p:=⟨bx,0,none⟩) hbx.lt).trans (hbx.cell 0)) (hgB.below hd hgB.lt))
    rw[Fu.o] at hany;have HT:aC (Sc.aY f [] (ws.take (i+1))=Sc.aY f [] wt++[Sc.dM f y.at_ 1 (wt.any (Sc.xK y.text))]):=by show _=_;rw[hT.out]
    clear hT hrt1;generalize wt.any (Sc.xK y.text)=tw at *;have b0:=hbx.cell 0;simp at b0;go_wp2_with fail;refine hany.mono ?_;clear hany;rintro e w3 ⟨rfl,hd3⟩;have hb3:=(hbx.below hd3 hbx.lt).cell 0;have g3:=(hgB.below hd3 hgB.lt).cell 1;simp at hb3 g3;have hit:=EW f y.at_ 1 tw w3;have hP3:=hP1.below hd3;have hK3:=hK1.trans (aD.below hd3);clear hbx hgB hP1 hK1 hd3 b0;go_wp2_with fail;refine hit.mono ?_;clear hit;rintro e w4 ⟨rfl,hd4⟩;have had:=vD (hP3.below hd4) (u:=Sc.dM f y.at_ 1 tw) Hf.o hyat.out hln.out;have hK4:=hK3.trans (aD.below hd4);clear hP3 hK3 hd4 hb3 g3;generalize Sc.dM f y.at_ 1 tw=u at *;go_wp2_with fail;refine had.mono ?_;clear had;rintro e w5 ⟨rfl,OZ,sH⟩;go_wp2_with fail
    go_roundg (ws.length-(i+1))
    case rel=>exact⟨i+1,by go_num,by have:=bZ.o;omega,aBT _,by rw[HT.o,<-aCL,ZE];exact OZ,hK4.trans sH⟩
    case measure=>have:=bZ.o;have:=Hm.o;omega
  ·obtain rfl:i=ws.length:=(by omega);have i1:=lC ws.length;have i2:=kZ ws.length;rw[List.take_length] at hP;clear hlt hi hm;go_wp2_with fail;go_end0;exact⟨rfl,hP,hK⟩
abbrev Fl:=Bs×Bs
def C8(f:Fl):List Value:=[.string ⟨f.1.toArray⟩,.string ⟨f.2.toArray⟩]
def EI(w:World)(A:Option Addr)(fs:List Fl):Prop:=Rd w w.heap.size 2 A fs.length (fs.flatMap C8)
theorem EI.below {fs:List Fl}(h:EI w A fs)(hd:Below w.heap.size w w'):EI w' A fs:=(Rd.below h hd).more hd.size
theorem VE: ∀(fs:List Fl) (i:Nat) (h:i<fs.length),(fs.flatMap C8)[i*2]? =some (.string ⟨fs[i].1.toArray⟩)/\(fs.flatMap C8)[i*2+1]? =some (.string ⟨fs[i].2.toArray⟩)
 | [],i,h=>absurd h (by simp)
 |f::fs,0,_=>⟨rfl,rfl⟩
 |f::fs,i+1,h=>by have ih:=VE fs i (by simpa using h);have e:(i+1)*2=i*2+1+1:=(by omega);rw[e,aEU];exact ih
theorem EI.at_ {fs:List Fl}(h:EI w A fs){i:Nat}(hi:i<fs.length): ∃br o,A=some ⟨br,o,none⟩/\br<w.heap.size/\w.cell? ⟨br,o+i*2,none⟩=some (.string ⟨fs[i].1.toArray⟩)/\w.cell? ⟨br,o+i*2+1,none⟩=some (.string ⟨fs[i].2.toArray⟩):=by
 obtain⟨br,o,e,hb,hc⟩:=h.2 (by omega);obtain⟨h1,h2⟩:=VE fs i hi;exact⟨br,o,e,hb,hc _ _ h1,by rw[Nat.add_assoc];exact hc _ _ h2⟩
theorem EI.take {fs:List Fl}(h:EI w A fs)(n:Nat):EI w A (fs.take n):=by
 have hl: ∀l:List Fl,(l.flatMap C8).length=l.length*2:=fun l=>by
  induction l with
  |nil=>rfl
  |cons f l ih=>rw[aEU,aBW,ih,List.length_cons];show 2+_=_;omega
 refine⟨hl _,fun hn=> ?_⟩;rw[aCY] at hn;obtain⟨br,o,e,hb,hc⟩:=h.2 (by omega);refine⟨br,o,e,hb,fun j u hu=>hc j u ?_⟩;have:fs.flatMap C8=(fs.take n).flatMap C8++(fs.drop n).flatMap C8:=by rw[<-List.flatMap_append,List.take_append_drop]
 rw[this];have hj:j<((fs.take n).flatMap C8).length:=by
  rcases aCN j ((fs.take n).flatMap C8).length with h|h
  ·exact h
  ·rw[List.getElem?_eq_none h] at hu;cases hu
 rw[List.getElem?_append_left hj];exact hu
theorem Cy{c:Nat}{fs:List Fl}(hr:EI w A fs)(hl:fs.length<=1000000000){Fn:Nat}{caps:Array Value}{P:Fl->Bool}
  (hrun: ∀(args:Array Value) (w:World),(callFunc Fn args).run aBS w=.ok (.enter Fn args) w)
  (hcl: ∀(x:Fl) (w':World),Below w.heap.size w w'->Calls aBS Fn (#[.agg #[.string ⟨x.1.toArray⟩,.string ⟨x.2.toArray⟩]]++caps) w' (rX (P x) w')):
  Calls aBS 163 #[.slice A fs.length c,.func (.func Fn) #[] caps] w (Ms (Sc.rU P fs) w):=by
 have Hl:=aB hl;clear hl
 go_enter func163,ntmps163
 go_wp2_with fail
 go_loopg [8] fs.length (fun m v wr=> ∃i:Nat,v=vZZ i/\i<=fs.length/\fs.length-i<=m/\aC (∀j (hj:j<fs.length),j<i->P fs[j]=false)/\Below w.heap.size w wr)
 case atStart=>exact⟨0,rfl,aBZ _,aBT _,fun j _ h=>absurd h (by omega),aBU _ _⟩
 case round=>
  obtain⟨i,rfl,hi,hm,HB,hd⟩:=hrel
  by_cases hlt:i<fs.length
  ·have GZ:=iZ i;have EB:=jJ i fs.length;obtain⟨br,o,rfl,hbl,hc0,hc1⟩:=hr.at_ hlt;have q0:=(hd.cell (p:=⟨br,o+i*2,none⟩) hbl).trans hc0;have q1:=(hd.cell (p:=⟨br,o+i*2+1,none⟩) hbl).trans hc1;have hcl:=hcl fs[i] wr hd;have c1:=uX i (by have:=Hl.o;omega);have HE:aC (P fs[i]=true->Sc.rU P fs=(i:Int)):=fun h=>Sc.UR hlt h HB.o
   have HN:aC (P fs[i]=false->∀j (hj:j<fs.length),j<i+1->P fs[j]=false):=fun h j hj hji=>by
    rcases aCN j i with h'|h'
    ·exact HB.o j hj h'
    ·obtain rfl:j=i:=(by omega);exact h
   have bZ:=aB hlt;have Hm:=aB hm;have hsz:=aB hd.size;generalize P fs[i]=b at *;generalize fs[i]=x at *;generalize Sc.rU P fs=R at *;clear hc0 hc1 hbl hlt hm hi HB;cases b with
   |true=>obtain rfl:=HE.o rfl;clear HE HN;go_wp2_with fail;refine hcl.mono ?_;clear hcl q0 q1;rintro e w1 ⟨rfl,hd1⟩;go_wp2_with fail;go_ret;exact⟨rfl,hd.trans (hd1.mono hsz.out)⟩
   |false=>
    clear HE;go_wp2_with fail;refine hcl.mono ?_;clear hcl q0 q1;rintro e w1 ⟨rfl,hd1⟩;go_wp2_with fail
    go_roundg (fs.length-(i+1))
    case rel=>exact⟨i+1,by go_num,by have:=bZ.o;omega,aBT _,(by first|exact HN.o trivial|exact HN.o rfl),hd.trans (hd1.mono hsz.out)⟩
    case measure=>have:=bZ.o;have:=Hm.o;omega
  ·obtain rfl:i=fs.length:=(by omega);have i1:=lC fs.length;have i2:=kZ fs.length;have HR:=aB (Sc.CV fun j hj=>HB.o j hj hj);clear hlt hi hm HB;go_wp2_with fail;go_ret;rw[HR.o];exact⟨rfl,hd⟩
theorem Zg{c:Nat}{fs:List Fl}(hr:EI w A fs)(hl:fs.length<=1000000000){Fn:Nat}{caps:Array Value}{P:Fl->Bool}
  (hrun: ∀(args:Array Value) (w:World),(callFunc Fn args).run aBS w=.ok (.enter Fn args) w)
  (hcl: ∀(x:Fl) (w':World),Below w.heap.size w w'->Calls aBS Fn (#[.agg #[.string ⟨x.1.toArray⟩,.string ⟨x.2.toArray⟩]]++caps) w' (rX (P x) w')):
  Calls aBS 118 #[.slice A fs.length c,.func (.func Fn) #[] caps] w (rX (fs.any P) w):=by
 have hi:=Cy (c:=c) hr hl hrun hcl;have HA:=aB (Sc.UT P fs);generalize Sc.rU P fs=i at *;generalize fs.any P=b at *;clear hr hl hrun hcl
 go_enter func118,ntmps118
 go_wp2_with fail;refine hi.mono ?_;clear hi;rintro e w1 ⟨rfl,hd⟩;go_wp2_with fail;go_ret;exact⟨by rw[<-HA.o];rfl,hd⟩
theorem Px{x:Fl}{bx ib:Nat}{y:Sc.Wd}(hb:w.cell? ⟨bx,0,none⟩=some (pZZ ib))(hi:w.cell? ⟨ib,10,none⟩=some (pZZ g))(hg:w.cell? ⟨g,0,none⟩=some (.string ⟨y.text.toArray⟩)):
  Calls aBS 218 #[.agg #[.string ⟨x.1.toArray⟩,.string ⟨x.2.toArray⟩],pZZ bx] w (rX (x.1==y.text) w):=by
 obtain⟨hd,hn⟩:=uS w 66 #[.string ⟨x.1.toArray⟩,.string ⟨x.2.toArray⟩];have hb1:=Ya hd hb;have hi1:=Ya hd hi;have hg1:=Ya hd hg;obtain⟨r,hr⟩:=dC w.heap.size;rw[<-hr] at hn;clear hb hi hg
 go_enter func218,ntmps218
 go_upto_region 1 with fail;rw[<-hr];clear hr;generalize w.alloc _=w1 at *;have n0:=hn.cell 0;simp at n0;clear hn
 go_quiet (fail)
 go_wp2_with fail;go_ret;exact⟨rfl,below_drewN hd _⟩
def Sc.Ew (names:List Bs)(mo:Option Sc.Wd):Int:=match mo with
 |some m=>Sc.rU (fun n=>n==m.text) names
 |none=> -1
theorem Sc.cz {α β:Type}(g:α->β)(P:β->Bool)(l:List α):Sc.rU (fun x=>P (g x)) l=Sc.rU P (l.map g):=by
 unfold Sc.rU;rw[List.any_map,List.findIdx_map];rfl
theorem Cx{fs:List Fl}{ib:Nat}{mo:Option Sc.Wd}{mv:Value}(hr:EI w A fs)(hl:fs.length<=1000000000)(hp:w.cell? ⟨pg,0,none⟩=some (.slice A fs.length c))(hi:w.cell? ⟨ib,10,none⟩=some mv)(hm:wI w F mo mv):
  Calls aBS 173 #[pZZ pg,pZZ ib] w (Ms (Sc.Ew (fs.map (·.1)) mo) w):=by
 obtain⟨hd,hn⟩:=uS w 229 #[pZZ ib];have hp1:=Ya hd hp;have hi1:=Ya hd hi;have hm1:=hm.below hd;have hr1:=hr.below hd;obtain⟨r,hr0⟩:=dC w.heap.size;rw[<-hr0] at hn;have hz:=aB hd.size;clear hp hi hm hr
 go_enter func173,ntmps173
 go_upto_region 1 with fail;rw[<-hr0];clear hr0;generalize w.alloc _=w1 at *;have n0:=hn.cell 0;simp at n0;cases mo with
 |none=>obtain rfl:mv=oZZ:=hm1;go_wp2_with fail;go_ret;exact⟨rfl,hd⟩
 |some y=>
  obtain⟨g,rfl,hF,hB⟩:=hm1;have hcl:=Cy (c:=c) hr1 hl (Fn:=218) (caps:=#[pZZ r]) (P:=fun f=>f.1==y.text) (fun _ _=>by kernel_rfl)
   (fun x w' hd'=>Px (bx:=r) (ib:=ib) (g:=g) ((hd'.cell (p:=⟨r,0,none⟩) hn.lt).trans n0) ((hd'.cell (p:=⟨ib,10,none⟩) (aDA w1 _ hi1)).trans hi1) ((hd'.cell (p:=⟨g,0,none⟩) hB.lt).trans (hB.cell 0)))
  have HV:Sc.Ew (fs.map (·.1)) (some y)=Sc.rU (fun f:Fl=>f.1==y.text) fs:=(Sc.cz (fun x:Fl=>x.1) (fun n=>n==y.text) fs).symm;have HV:=aB HV;clear hn hB;go_wp2_with fail;refine hcl.mono ?_;clear hcl n0 hi1 hp1;rintro e w2 ⟨rfl,hd2⟩;go_wp2_with fail;go_ret;exact⟨by rw[HV.o];rfl,hd.trans (hd2.mono hz.out)⟩
section
variable{σ:Type}(x:Sc.It)(st:Sc.Env->Tr.PT->σ->σ)
mutual
def iL(e:Sc.Env):Tr.PT->σ->σ
 | .leaf k t a,s=>st e (.leaf k t a) s
 | .gap t a d,s=>st e (.gap t a d) s
 | .branch k a l,s=>mG (Sc.zF x e (.branch k a l)) (Sc.uQ x e (.branch k a l)) l (if k=12 then s else st e (.branch k a l) s)
def mG(e1 e2:Sc.Env):List Tr.PT->σ->σ
 | [],s=>s
 |p::l,s=>if Sc.bA p||Sc.kindOf p==12 then mG e2 e2 l (iL e1 p s)else mG e1 e2 l s
end
def PG(e1 e2:Sc.Env):List Tr.PT->σ->σ
 | [],s=>s
 |p::l,s=>PG e2 e2 l (iL x st e1 p s)
theorem BR: ∀(l:List Tr.PT) (e1 e2:Sc.Env) (s:σ),(∀p∈l,Sc.kindOf p≠12)->mG x st e1 e2 l s=PG x st e1 e2 (Sc.bF l) s
 | [],_,_,_,_=>by unfold mG Sc.bF;rfl
 |p::l,e1,e2,s,h=>by
  have h12:(Sc.kindOf p==12)=false:=(by simpa using h p (by simp));unfold mG;unfold Sc.bF;rw[h12,Bool.or_false,List.filter_cons];split
  ·have:=BR l e2 e2 (iL x st e1 p s) fun q hq=>h q (aEK _ hq)
   rw[this];rfl
  ·exact BR l e1 e2 s fun q hq=>h q (aEK _ hq)
theorem JO(e1 e2:Sc.Env): ∀(l:List Tr.PT) (i:Nat) (h:i<l.length) (s:σ),PG x st e1 e2 (l.take (i+1)) s=iL x st (if i=0 then e1 else e2) l[i] (PG x st e1 e2 (l.take i) s)
 | [],i,h,_=>absurd h (by simp)
 |p::l,0,_,s=>rfl
 |p::l,i+1,h,s=>by have ih:=JO e2 e2 l i (by simpa using h) (iL x st e1 p s);rw[ite_self] at ih;rw[if_neg (by omega)];exact ih
theorem walk_call(e:Sc.Env)(a a2:Nat)(c:Tr.PT)(m:List Tr.PT)(s:σ)(hc:Sc.bA c=true)(hm: ∀p∈m,Sc.kindOf p≠12):
  iL x st e (.branch 11 a [c,.branch 12 a2 m]) s=PG x st e e (c::Sc.bF m) (st e (.branch 11 a [c,.branch 12 a2 m]) s):=by
 have e11:Sc.zF x e (.branch 11 a [c,.branch 12 a2 m])=e:=rfl;have e12:Sc.uQ x e (.branch 11 a [c,.branch 12 a2 m])=e:=rfl;have e21:Sc.zF x e (.branch 12 a2 m)=e:=rfl;have e22:Sc.uQ x e (.branch 12 a2 m)=e:=rfl;unfold iL;rw[e11,e12,if_neg (by omega)];unfold mG;rw[hc,Bool.true_or,if_pos rfl];unfold mG;rw[if_pos (by simp[Sc.kindOf])];have e3:mG x st e e []=fun s:σ=>s:=by funext s;unfold mG;rfl
 rw[e3];dsimp only
 conv=>lhs;unfold iL
 rw[e21,e22,if_pos rfl,BR x st m e e _ hm];rfl
theorem Yn(e:Sc.Env)(k a:Nat)(l:List Tr.PT)(s:σ)(hk:k≠12)(hl: ∀p∈l,Sc.kindOf p≠12):
  iL x st e (.branch k a l) s=PG x st (Sc.zF x e (.branch k a l)) (Sc.uQ x e (.branch k a l)) (Sc.bF l) (st e (.branch k a l) s):=by
 unfold iL;rw[if_neg hk,BR x st l _ _ _ hl]
end
structure JD{σ:Type}(Fn:Nat)(caps:Array Value)(w0:World)(F:Nat->Prop)(T:List TypeId)(x:Sc.It)(ib:Nat)(Q:Tr.PT->Prop)(G:σ->Prop)(st:Sc.Env->Tr.PT->σ->σ)(I:σ->World->Prop):Prop where
 run: ∀(args:Array Value) (w:World),(callFunc Fn args).run aBS w=.ok (.enter Fn args) w
 keep: ∀s w,I s w->w0.heap.size<=w.heap.size/\∀b,F b->b<w0.heap.size->w.heap[b]? =w0.heap[b]?
 fok: ∀b,F b->b<w0.heap.size
 below: ∀s w w',I s w->Below w.heap.size w w'->I s w'
 base: ∀s w,I s w->∃cs,aV w ib 234 cs/\cs[1]? =some (kZZ (x.base:Int))
 types:359∉T/\333∉T/\122∉T
 call: ∀(e:Sc.Env) (p:Tr.PT) (pv:Value) (ep:Option Addr) (up:Value) (vb:Nat) (s:σ) (w:World),Q p->dE w F p pv->kJ w (fun _=>True) e ep->aV w vb 333 #[pv,.pointer ep,up]->I s w->G (st e p s)->
  Calls aBS Fn (#[pZZ vb]++caps) w fun e' w'=>e'=.returned (.tuple #[])/\I (st e p s) w'/\aD T w w'
 back: ∀e p s,G (st e p s)->G s
 sub: ∀k a l,Q (.branch k a l)->l.length<=1000000000/\(∀p∈l,Sc.bA p=true->Q p)/\(k=11->∀k2 a2 m,.branch k2 a2 m∈l->m.length<=1000000000/\∀p∈m,Sc.bA p=true->Q p)
section
variable{σ:Type}{Fn:Nat}{caps:Array Value}{w0:World}{F:Nat->Prop}{T:List TypeId}{x:Sc.It}{ib:Nat}{Q:Tr.PT->Prop}{G:σ->Prop}{st:Sc.Env->Tr.PT->σ->σ}{I:σ->World->Prop}
mutual
theorem JY{G:σ->Prop}{st:Sc.Env->Tr.PT->σ->σ}(hb: ∀e p s,G (st e p s)->G s): ∀(p:Tr.PT) (e:Sc.Env) (s:σ),G (iL x st e p s)->G (if Sc.kindOf p=12 then s else st e p s)
 | .leaf k t a,e,s,h=>by unfold iL at h;exact h
 | .gap t a d,e,s,h=>by unfold iL at h;exact h
 | .branch k a l,e,s,h=>by unfold iL at h;exact wS hb l _ _ _ h
theorem wS{G:σ->Prop}{st:Sc.Env->Tr.PT->σ->σ}(hb: ∀e p s,G (st e p s)->G s): ∀(l:List Tr.PT) (e1 e2:Sc.Env) (s:σ),G (mG x st e1 e2 l s)->G s
 | [],_,_,s,h=>by unfold mG at h;exact h
 |p::l,e1,e2,s,h=>by
  unfold mG at h;split at h
  ·have h1:=JY hb p e1 s (wS hb l _ _ _ h);split at h1
   ·exact h1
   ·exact hb _ _ _ h1
  ·exact wS hb l _ _ _ h
end
theorem DJ{G:σ->Prop}{st:Sc.Env->Tr.PT->σ->σ}(hb: ∀e p s,G (st e p s)->G s): ∀(l:List Tr.PT) (e1 e2:Sc.Env) (s:σ),G (PG x st e1 e2 l s)->G s
 | [],_,_,s,h=>h
 |p::l,e1,e2,s,h=>by
  have h1:=JY hb p e1 s (DJ hb l _ _ _ h);split at h1
  ·exact h1
  ·exact hb _ _ _ h1
theorem Es(e1 e2:Sc.Env): ∀(l m:List Tr.PT) (s:σ),l≠ []->PG x st e1 e2 (l++m) s=PG x st e2 e2 m (PG x st e1 e2 l s)
 | [],_,_,h=>absurd rfl h
 | [p],m,s,_=>rfl
 |p::q::l,m,s,_=>by have:=Es e2 e2 (q::l) m (iL x st e1 p s) (by simp);exact this
theorem o7{G:σ->Prop}(hb: ∀e p s,G (st e p s)->G s){e1 e2:Sc.Env}{l:List Tr.PT}{s:σ}(h:G (PG x st e1 e2 l s))(i:Nat)(hi:i<l.length):G (iL x st (if i=0 then e1 else e2) l[i] (PG x st e1 e2 (l.take i) s)):=by
 rw[<-JO];have e:l=l.take (i+1)++l.drop (i+1):=(List.take_append_drop _ _).symm;rw[e,Es] at h
 ·exact DJ hb _ _ _ _ h
 ·intro h0;have:=congrArg List.length h0;rw[aCY,List.length_nil] at this;omega
end
end Go.Proofs.YtcjjfeephaddcaaGreatDoor
namespace Go.Proofs.YtcjjfeephaddcaaGreatDoor.Sc
open Tr (PT)
theorem AV{n:List UInt8}{y:It}(h:named n y=true): ∃w,y.name=some w/\w.text=n:=by
 unfold named at h;cases hn:y.name with
 |none=>rw[hn] at h;cases h
 |some w=>rw[hn] at h;exact⟨w,rfl,by simpa using h⟩
theorem uO{l:List It}{n:List UInt8}{k:Nat}(h:bJ l n=some k): ∃y,l[k]? =some y/\named n y=true:=by
 unfold bJ at h;rw[List.findIdx?_eq_some_iff_getElem] at h;obtain⟨hk,h1,_⟩:=h;exact⟨l[k],aBY hk,h1⟩
section
variable(W:Wk)(U:List Us)
end
section
variable{W:Wk}{U:List Us}
end
end Go.Proofs.YtcjjfeephaddcaaGreatDoor.Sc
namespace Go.Proofs.YtcjjfeephaddcaaGreatDoor
open Go.RowKit Go.Maps
variable{w w':World}{F:Nat->Prop}{A:Option Addr}{c:Nat}
abbrev bO(g:Nat):Value:=pZZ g
def kW(x:Sc.It)(tw:Bool)(pb:Nat)(nv:Value)(A:Option Addr)(c:Nat)(ev mv me av:Value):Array Value:=
 #[kZZ (x.file:Int),kZZ (x.base:Int),bO pb,.bool x.yZ,.bool tw,nv,.bool x.jT,.slice A x.params.length c,ev,.bool x.has,mv,me,av]
def Nt(w:World)(F:Nat->Prop)(x:Sc.It)(tw:Bool)(g:Nat):Prop:=
 F g/\(Sc.kindOf x.part=if x.bH then 4 else 3)/\∃pb nv A c ev mv me av,aV w g 234 (kW x tw pb nv A c ev mv me av)/\dE w F x.part (.iface 114 (bO pb))/\wI w F x.name nv/\
  x.params.length<=c/\OP w F A x.params/\(∀br o,A=some ⟨br,o,none⟩->0<x.params.length->∃cs fr,w.heap[br]? =some (.cells cs 231 fr))/\
  (x.bH=true->dE w F x.expr ev)/\wI w F x.mo mv/\wI w F x.me me/\wI w F x.al av
theorem Nt.keep {F':Nat->Prop}(hs:w.heap.size<=w'.heap.size)(hk: ∀b,F b->b<w.heap.size->w'.heap[b]? =w.heap[b]? /\F' b){x:Sc.It}{tw:Bool}{g:Nat}(h:Nt w F x tw g):Nt w' F' x tw g:=by
 obtain⟨hF,hkd,pb,nv,A,c,ev,mv,me,av,hB,hp,hn,hc,hr,hty,he,h1,h2,h3⟩:=h;have hg:=hk g hF hB.lt;refine⟨hg.2,hkd,pb,nv,A,c,ev,mv,me,av,hg.1.trans hB,dE.keep hs hk _ _ hp,hn.keep hk,hc,hr.keep hs hk,fun br o e hl=> ?_,fun hd=>dE.keep hs hk _ _ (he hd),h1.keep hk,h2.keep hk,h3.keep hk⟩;obtain⟨cs,fr,hb⟩:=hty br o e hl;obtain⟨vs,hrow,hw⟩:=hr;obtain⟨br',o',e',FP,hlb,_⟩:=hrow (by have:=hw.len;omega);rw[e] at e';injection e' with e';injection e' with e' _;subst e';exact⟨cs,fr,(hk br FP hlb).1.trans hb⟩
def kN(v:Value):Option (DataW Unit×List MemPlace):=match v with
 | .pointer none=>some (.lit (.int .i64 (-1)),[])
 | .pointer (some ⟨b,0,none⟩)=>some (.lit (.int .i64 (b:Int)),[])
 |_=>none
theorem UQ{v:Value}{b:Nat}{ps:List MemPlace}(h:kN v=some (.lit (.int .i64 (b:Int)),ps)):v=bO b:=by
 unfold kN at h;split at h
 ·injection h with h;injection h with h _;injection h with h;injection h with _ h;omega
 ·injection h with h;injection h with h _;injection h with h;injection h with _ h;obtain rfl:=Int.ofNat.inj h;rfl
 ·cases h
def tL(D:DataW Unit)(l:List Sc.It)(G:List Nat):Prop:= ∀n:Bs,Maps.has D (.string n)=(Sc.bJ l n).isSome/\∀(k g:Nat),Sc.bJ l n=some k->G[k]? =some g->D.atKey (.string n) (.lit (.int .i64 (-1)))=.lit (.int .i64 (g:Int))
theorem Rm:Keyed aBS 9:=string_keyed underlying9
theorem Oc(w:World):(zeroValue 229).run aBS w=.ok (oZZ) w:=by kernel_rfl
theorem OV{v:Value}{ps:List MemPlace}(h:kN v=some (.lit (.int .i64 (-1)),ps)):v=.pointer none:=by
 unfold kN at h;split at h
 ·rfl
 ·injection h with h;injection h with h _;injection h with h;injection h with _ h;omega
 ·cases h
def rV(l:List Sc.It)(G:List Nat)(t:Bs):Value:=match Sc.bJ l t with
 |some k=>match G[k]? with
  |some g=>bO g
  |none=>oZZ
 |none=>oZZ
theorem SB{m n:Nat}{D:DataW Unit}{l:List Sc.It}{G:List Nat}(h:w.ownsMap aBS 9 kN m n D)(hD:tL D l G)(hG:G.length=l.length)(t:Bs)(ht:t.length<=maxLen):
  (Instr.lookup 228 (.map (some m)) (.string ⟨t.toArray⟩) true).run aBS w=.ok (.tuple #[rV l G t,.bool (Sc.bJ l t).isSome]) w:=by
 obtain⟨v,ps,hrun,hv⟩:=h.look_ok Rm underlying228 (Oc w) (zd:=.lit (.int .i64 (-1))) (zp:=[]) rfl (key:=.string ⟨t.toArray⟩) (kl:=.string t) (by have:=WideMaps.keyOf_string_mk (P:=aBS) underlying9 (s:=(⟨t.toArray⟩:ByteArray)) (by rw[bG];exact ht);simpa using this);have h1:=(hD t).1;rw[h1] at hrun;have:v=rV l G t:=by
  unfold rV;cases hf:Sc.bJ l t with
  |none=>rw[hf] at h1;rw[atKey_of_not_has h1] at hv;exact OV hv
  |some k=>obtain⟨y,hy,_⟩:=Sc.uO hf;have hk:=(List.getElem?_eq_some_iff.1 hy).1;rw[<-hG] at hk;dsimp only;rw[aBY hk];rw[(hD t).2 k _ hf (aBY hk)] at hv;exact UQ hv
 rw[<-this];exact hrun
structure VV(w:World)(F:Nat->Prop)(pg:Nat)(A:Option Addr)(c:Nat)(fs:List Fl)(Ad:Option Addr)(cd:Nat)(W:Sc.Wk)(GG:List (List Nat)):Prop where
 p0:w.cell? ⟨pg,0,none⟩=some (.slice A fs.length c)
 p4:w.cell? ⟨pg,4,none⟩=some (.slice Ad W.items.length cd)
 files:EI w A fs
 names:W.names=fs.map (·.1)
 fl:fs.length=W.items.length
 few:fs.length<=1000
 gl:GG.length=W.items.length
 nd:GG.flatten.Nodup
 its: ∀(f:Nat) (l:List Sc.It) (G:List Nat),W.items[f]? =some l->GG[f]? =some G->G.length=l.length/\∀(k:Nat) (x:Sc.It) (g:Nat),l[k]? =some x->G[k]? =some g->Nt w F x (Sc.dW l k) g
 Uh: ∀(f:Nat) (l:List Sc.It),W.items[f]? =some l->l.length<=1000000/\∀x∈l,x.file=f/\(∀y:Sc.Wd,x.name=some y->y.at_<=1000000000)/\(∀y:Sc.Wd,x.me=some y->y.text.length<=1000000)
 fnd: ∃ms:List Nat,ms.length=W.items.length/\fP w F Ad (ms.map fun m=>.map (some m))/\∀(f:Nat) (l:List Sc.It) (G:List Nat) (m:Nat),W.items[f]? =some l->GG[f]? =some G->ms[f]? =some m->∃(n:Nat) (D:DataW Unit),F m/\w.ownsMap aBS 9 kN m n D/\tL D l G
theorem dX{P:Program}{k:TypeId}{R:Value->Option (DataW Unit×List MemPlace)}{m n:Nat}{D:DataW Unit}(h:w.ownsMap P k R m n D)(hk:w'.heap[m]? =w.heap[m]?):w'.ownsMap P k R m n D:=by
 obtain⟨es,clock,hb,r⟩:=h;exact⟨es,clock,hk.trans hb,r⟩
theorem VV.keep {pg:Nat}{fs:List Fl}{Ad:Option Addr}{cd:Nat}{W:Sc.Wk}{GG:List (List Nat)}(h:VV w F pg A c fs Ad cd W GG)(hs:w.heap.size<=w'.heap.size)
  (h0:w'.cell? ⟨pg,0,none⟩=w.cell? ⟨pg,0,none⟩) (h4:w'.cell? ⟨pg,4,none⟩=w.cell? ⟨pg,4,none⟩) (hf:EI w' A fs) (hk: ∀b,F b->b<w.heap.size->w'.heap[b]? =w.heap[b]?):VV w' F pg A c fs Ad cd W GG:=by
 have hk2: ∀b,F b->b<w.heap.size->w'.heap[b]? =w.heap[b]? /\F b:=fun b hb hl=>⟨hk b hb hl,hb⟩
 refine⟨h0.trans h.p0,h4.trans h.p4,hf,h.names,h.fl,h.few,h.gl,h.nd,fun f l G h1 h2=>⟨(h.its f l G h1 h2).1,fun k x g h3 h4=>((h.its f l G h1 h2).2 k x g h3 h4).keep hs hk2⟩,h.Uh,?_⟩;obtain⟨ms,h1,h2,h3⟩:=h.fnd;refine⟨ms,h1,h2.keep hs hk2,fun f l G m e1 e2 e3=> ?_⟩;obtain⟨n,D,hF,ho,hD⟩:=h3 f l G m e1 e2 e3;exact⟨n,D,hF,dX ho (hk m hF ho.lt),hD⟩
theorem VV.below {pg:Nat}{fs:List Fl}{Ad:Option Addr}{cd:Nat}{W:Sc.Wk}{GG:List (List Nat)}(h:VV w F pg A c fs Ad cd W GG)(hd:Below w.heap.size w w'):VV w' F pg A c fs Ad cd W GG:=
 h.keep hd.size (hd.cell (p:=⟨pg,0,none⟩) (aDA w _ h.p0)) (hd.cell (p:=⟨pg,4,none⟩) (aDA w _ h.p4)) (h.files.below hd) fun b _ hl=>hd.block b hl
theorem Zd{B:Nat}{gs:List Nat}(hown:w.ownsRow B 229 1 (.slice A gs.length c) gs.length (gs.map bO))(hl:gs.length<=1000000000)(g:Nat)(hB: ∀x,x=g\/x∈gs->∃t cs,aV w x t cs):
  Calls aBS 239 #[.slice A gs.length c,bO g] w (Ms (Sc.rU (fun x=>g==x) gs) w):=by
 have Hl:=aB hl;have HBl:aC (∀x,x=g\/x∈gs->∃t cs,aV w x t cs):=hB;obtain⟨jt,hjt,hj0⟩: ∃j,aBS.info? 234=some j/\j.size≠0:=by have h:(aBS.info? 234).map (fun i=>i.size)=some 13:=(by kernel_rfl);rw[Option.map_eq_some_iff] at h;obtain⟨j,h1,h2⟩:=h;exact⟨j,h1,by omega⟩
 clear hl hB;unfold bO at *
 go_enter func239,ntmps239
 go_wp2_with fail
 go_loopg [8] gs.length (fun m v wr=>wr=w/\∃i:Nat,v=vZZ i/\i<=gs.length/\gs.length-i<=m/\aC (∀j (hj:j<gs.length),j<i->(g==gs[j])=false))
 case atStart=>exact⟨rfl,0,rfl,aBZ _,aBT _,fun j _ h=>absurd h (by omega)⟩
 case round=>
  obtain⟨rfl,i,rfl,hi,hm,HB⟩:=hrel
  by_cases hlt:i<gs.length
  ·have GZ:=iZ i;have EB:=jJ i gs.length;obtain⟨r0,rfl,hc⟩:=pE hown (by omega);have q0:=hc i _ (by rw[List.getElem?_map,aBY hlt];rfl);have c1:=uX i (by have:=Hl.o;omega);obtain⟨tx,cx,hBx⟩:=HBl.o gs[i] (.inr (aCR hlt));obtain⟨tg,cg,hBg⟩:=HBl.o g (.inl rfl);have HE:aC (g=gs[i]->Sc.rU (fun x=>g==x) gs=(i:Int)):=fun h=>Sc.UR (P:=fun x=>g==x) hlt (by simpa using h) HB.o
   have HN:aC (g≠gs[i]->∀j (hj:j<gs.length),j<i+1->(g==gs[j])=false):=fun h j hj hji=>by
    rcases aCN j i with h'|h'
    ·exact HB.o j hj h'
    ·obtain rfl:j=i:=(by omega);simpa using h
   have bZ:=aB hlt;have Hm:=aB hm;generalize gs[i]=x at *;clear hc hlt hm hi HB
   by_cases hgx:g=x
   ·have HE1:=aB (HE.o hgx);subst hgx;have heq:=run_eql_ptr_same (P:=aBS) wr ⟨g,0,none⟩ underlying229 hjt;clear HE HN hBx hBg;go_wp2_with fail;go_ret;exact⟨by rw[HE1.o];rfl,aBU _ _⟩
   ·have heq:=run_eql_ptr_other (P:=aBS) wr (a:=⟨g,0,none⟩) (b:=⟨x,0,none⟩) underlying229 hjt hj0 (fun e=>hgx (by injection e)) hBg hBx;clear hBg hBx;have HN:=aB (HN.o hgx);clear HE hgx;go_wp2_with fail
    go_roundg (gs.length-(i+1))
    case rel=>exact⟨rfl,i+1,by go_num,by have:=bZ.o;omega,aBT _,HN⟩
    case measure=>have:=bZ.o;have:=Hm.o;omega
  ·obtain rfl:i=gs.length:=(by omega);have i1:=lC gs.length;have i2:=kZ gs.length;have HR:=aB (Sc.CV (P:=fun x=>g==x) fun j hj=>HB.o j hj hj);clear hlt hi hm HB;go_wp2_with fail;go_ret;rw[HR.o];exact⟨rfl,aBU _ _⟩
theorem Ze{B:Nat}{gs:List Nat}(hown:w.ownsRow B 229 1 (.slice A gs.length c) gs.length (gs.map bO))(hl:gs.length<=1000000000)(g:Nat)(hB: ∀x,x=g\/x∈gs->∃t cs,aV w x t cs):
  Calls aBS 219 #[.slice A gs.length c,bO g] w (rX (gs.any fun x=>g==x) w):=by
 have hi:=Zd hown hl g hB;have HA:=aB (Sc.UT (fun x=>g==x) gs);generalize Sc.rU (fun x=>g==x) gs=i at *;generalize(gs.any fun x=>g==x)=b at *;clear hown hl hB;unfold bO at *
 go_enter func219,ntmps219
 go_wp2_with fail;refine hi.mono ?_;clear hi;rintro e w1 ⟨rfl,hd⟩;go_wp2_with fail;go_ret;exact⟨by rw[<-HA.o];rfl,hd⟩
theorem TN{g pb:Nat}{kd:Nat}(h2:w.cell? ⟨g,2,none⟩=some (bO pb))(h0:w.cell? ⟨pb,0,none⟩=some (vZZ kd)):
  Calls aBS 121 #[bO g] w (rX (kd==4) w):=by
 unfold bO at *
 go_enter func121,ntmps121
 go_wp2_with fail;go_ret;refine⟨?_,aBU _ _⟩;have:((kd:Int)==4)=(kd==4):=by rw[Bool.eq_iff_iff];simp;omega
 simp[this]
end Go.Proofs.YtcjjfeephaddcaaGreatDoor
