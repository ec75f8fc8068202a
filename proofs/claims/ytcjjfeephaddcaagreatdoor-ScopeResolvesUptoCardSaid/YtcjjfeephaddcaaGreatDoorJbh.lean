import Derived.Test.YtcjjfeephaddcaaGreatDoorJbg
import Derived.ProofKit
import Derived.OpenShut
import Derived.JoinedCond
import Derived.Deep.Slices
import Derived.Deep.Fields
import Derived.ChangeSame
import Derived.SliceStrings
import Derived.PinnedBridge
import Derived.Lib.LaidU8
import Derived.Lib.LaidIn
import Derived.LaidLaws
import Derived.Stop.Joined
import Derived.Stop.LaidErr
import Derived.Shelf.Vars
import Derived.LaidHandle
set_option linter.all false
open Decidable renaming of_not_not->aFM
open Go.DataW renaming trod->aGG,trod_string->aHA
open Go.Proofs.Tryz renaming prog->aBS
open Go.RowKit.Below renaming refl->aBU
open Go.Value renaming slice->aBX,oneCell'->aCA
open Go.World renaming news_of_block->aCK,cell?_of_block->aCM,ownsRow_nil->aCW,block_lt_of_cell?->aDA
open List renaming length_append->aBW,getElem?_eq_getElem->aBY,getElem?_eq_some_iff->aCD,length_map->aCE,mem_singleton->aCH,take_succ_eq_append_getElem->aCP,map_cons->aDH,map_append->aDI,getElem?_map->aDO,take_of_length_le->aDY,range->aEN,getElem?_eq_none->aEX,sum_cons->aFB,filter_append->aFT
open Nat renaming le_refl->aBT,le_trans->aBV,zero_le->aBZ,lt_or_ge->aCN
open Option renaming some->aDB,map_eq_some_iff->aFA
set_option maxHeartbeats 64000000
set_option maxRecDepth 100000
open Go.Proofs.Tryz
namespace Go.Proofs.YtcjjfeephaddcaaGreatDoor
open Go.RowKit Go.Maps
def DnS(bx g:Nat)(y:Sc.Wd)(w:World):Prop:=w.cell? ⟨bx,3,none⟩=some (pZZ g)/\w.cell? ⟨g,6,none⟩=some (kZZ (y.at_:Int))
def Sc.GY (fs:List Fl)(i:Nat):List (List Sc.It):=(Sc.uV fs).items.take i
theorem Sc.OU {i:Nat}{ks:List Tr.Kd}{k:Nat}(h: ∀kd,ks[k]? =some kd->Sc.gU kd=false):Sc.bM i (ks.take (k+1))=Sc.bM i (ks.take k):=by
 rcases aCN k ks.length with hk|hk
 ·rw[aCP hk];unfold Sc.bM;rw[aFT];have:=h ks[k] (aBY hk);simp[this]
 ·rw[aDY hk,aDY (by omega)]
theorem Sc.LX {i:Nat}{ks:List Tr.Kd}{k:Nat}{kd:Tr.Kd}(hk:ks[k]? =some kd)(h:Sc.gU kd=true):Sc.bM i (ks.take (k+1))=Sc.bM i (ks.take k)++[Sc.dZ i kd]:=by
 obtain⟨hl,rfl⟩:=aCD.1 hk;rw[aCP hl];unfold Sc.bM;rw[aFT];simp[h]
theorem Sc.Dm {kd:Tr.Kd}:(Sc.UJ kd.part=3\/Sc.UJ kd.part=4)↔Sc.gU kd=true:=by
 unfold Sc.gU;cases kd.part with
 |leaf _ _ _=>simp[Sc.UJ,Sc.kindOf]
 |gap _ _ _=>simp[Sc.UJ,Sc.kindOf]
 |branch k _ _=>simp[Sc.UJ,Sc.kindOf]
theorem Sc.aAz {s:Bs}{k:Nat}{p:Tr.PT}(h:(Tr.vV s (Lx.dR 0 s))[k]? =some p):(∃kd,(Sc.dN s)[k]? =some kd/\p=kd.part)\/((Sc.dN s).length<=k/\∃kk t a,p=.leaf kk t a):=by
 unfold Tr.vV at h;have hl:((Tr.bV s (Lx.dR 0 s) ((Lx.dR 0 s).length+1) 0).1.map (·.part)).length=(Sc.dN s).length:=by rw[aCE];rfl
 rcases aCN k (Sc.dN s).length with hk|hk
 ·rw[List.getElem?_append_left (by omega),aDO] at h;left;have e:(Sc.dN s)[k]? =some (Sc.dN s)[k]:=aBY hk;refine⟨(Sc.dN s)[k],e,?_⟩;unfold Sc.dN at e⊢;rw[e] at h;simpa using h.symm
 ·rw[List.getElem?_append_right (by omega)] at h;right;refine⟨hk,?_⟩;unfold Tr.sP at h;rw[aDO] at h;obtain⟨t,_,rfl⟩:=aFA.1 h;exact⟨_,_,_,rfl⟩
theorem aAr:(aBS.info? 91).map (fun i=>(i.zero,i.size,i.bytes))=some (some (nZZ),1,24):=by kernel_rfl
theorem Sc.Rq (fs:List Fl)(i:Nat)(h:i<fs.length):Sc.GY fs (i+1)=Sc.GY fs i++[Sc.bM i (Sc.dN fs[i].2)]:=by
 have hg:(Sc.uV fs).items[i]? =some (Sc.bM i (Sc.dN fs[i].2)):=by rw[<-Sc.JS];show(List.map (fun y=>Sc.bM y.2 y.1) (fs.map fun f=>Sc.dN f.2).zipIdx)[i]? =_;rw[aDO,List.getElem?_zipIdx];simp[h]
 obtain⟨hl,he⟩:=aCD.1 hg;unfold Sc.GY;rw[aCP hl,he]
theorem Ik{w:World}{A:Option Addr}{c:Nat}{fs:List Fl}(hr:EI w A fs)(hf:Sc.fO fs=0):
  Calls aBS 15 #[.slice A fs.length c] w (xc (Sc.qC (Sc.uV fs)) w):=by
 obtain⟨ir0,ir1,ir2,ir3,ir4⟩:=info_parts Bb;obtain⟨iI0,iI1,iI2,iI3,iI4⟩:=info_parts aAr;obtain⟨iX0,iX1,iX2,iX3,iX4⟩:=info_parts aBC;obtain⟨h16,htx⟩:=Sc.BH hf;have TB:=aB h16;have mq:=aB htx;obtain⟨hd1,hb1⟩:=uS w 44 #[.slice A fs.length c,nZZ,nZZ,nZZ];obtain⟨wb,hwb⟩:=dC w.heap.size;rw[<-hwb] at hb1;have Oa:aC (DX (w.alloc (.cells #[.slice A fs.length c,nZZ,nZZ,nZZ] 44)) wb (fun _=>False) A c fs 0 0 [] none 0 none 0):=
  ⟨hb1,fun _ h=>h.elim,⟨[],aCW _ _ _ _⟩,fun _ _ h=>h,fun _ _ h=>h,rfl,⟨[],rfl,aCW _ _ _ _,fun f l s h=>by simp at h⟩⟩
 have Hr:=aB hr;have Hwb:=aB hwb;have wL:=aB hd1;clear hr hf h16 htx hb1 hd1
 go_enter func15,ntmps15
 go_upto_region 2 with fail;rw[<-hwb];clear hwb;generalize w.alloc _=w1 at *;go_wp2_with fail
 go_loopg [4] fs.length (fun m v wr=> ∃(i:Nat) (P:Nat->Prop) (Ar:Option Addr) (cr:Nat) (Ai:Option Addr) (ci:Nat),v=vZZ i/\i<=fs.length/\fs.length-i<=m/\DX wr wb P A c fs i i (Sc.GY fs i) Ar cr Ai ci/\Below w.heap.size w wr)
 case atStart=>exact⟨0,_,none,0,none,0,rfl,aBZ _,aBT _,by rw[Sc.GY,List.take_zero];exact Oa.o,wL.o⟩
 case round=>
  clear Oa wL;obtain⟨i,P,Ar,cr,Ai,ci,rfl,hi,hm,hN,hd⟩:=hrel
  by_cases hlt: ¬i<fs.length
  ·obtain rfl:i=fs.length:=(by omega);have i1:=lC fs.length;have i2:=kZ fs.length;have hits:Sc.GY fs fs.length=(Sc.uV fs).items:=(by unfold Sc.GY;exact aDY (by rw[Sc.TG];exact aBT _));rw[hits] at hN;obtain⟨F,hRh,hRg⟩:=hN.done Hr.o Hwb.o hd TB.o mq.o;have HUs:aC ((Sc.qC (Sc.uV fs)).length<=48000000):=Sc.EL fs TB.o mq.o;have HIt:aC (∀(f k:Nat) (l:List Sc.It) (x:Sc.It),(Sc.uV fs).items[f]? =some l->l[k]? =some x->x.file=f/\(x.bH=true->zI x.expr/\x.params.length<=1000000)):=fun f k l x h1 h2=>Sc.Ym mq.o h1 h2
   have Xb:aC (fs.length=(Sc.uV fs).items.length):=(Sc.TG fs).symm;have Cf:=aB hRh;have HRg:=aB hRg;have Hd:=aB hd;clear hlt hi hm hN hd hits hRh hRg;generalize Sc.uV fs=W at *;generalize wr=w1 at *;go_wp2_with fail
   go_loopg [10] fs.length (fun m v wx=> ∃f:Nat,v=vZZ f/\f<=fs.length/\fs.length-f<=m/\yU w1 wx wb (.slice A fs.length c) (.slice Ar fs.length cr) (.slice Ai W.items.length ci) (Sc.dV W f 0))
   case atStart=>exact⟨0,rfl,aBZ _,aBT _,HRg.o⟩
   case round=>
    obtain⟨f,rfl,hf,hm,hP⟩:=hrel
    by_cases hlf: ¬f<fs.length
    ·obtain rfl:f=fs.length:=(by omega);have i1:=lC fs.length;have i2:=kZ fs.length;have e:Sc.dV W fs.length 0=Sc.qC W:=(by rw[Xb.o];exact Sc.JZ W);rw[e] at hP;have HP:=aB hP;clear hlf hf hm e hP;go_wp2_with fail;go_ret;obtain⟨Au,cu,h3,hu⟩:=HP.o.told;exact⟨wb,Au,cu,rfl,h3,hu,HP.o.VR Hwb.o Hd.o⟩
    replace hlf:=aFM hlf;have ff0:=iZ f;have ff1:=jJ f fs.length;have ff2:(f:Int)<(W.items.length:Int):=(by rw[<-Xb.o];exact ff1);have c1:=uX f (by have:=TB.o;omega);have hfi:f<W.items.length:=(by rw[<-Xb.o];exact hlf);have EG:aC (W.items[f]? =some W.items[f]):=aBY hfi;have HE:aC (Sc.dV W f W.items[f].length=Sc.dV W (f+1) 0):=Sc.wV W (aBY hfi);have Hfi:=aB hfi;have Hle:=aB (Cf.o.wk.Uh f _ (aBY hfi)).1;generalize W.items[f]=l at *;have bZ:=aB hlf;have Hm:=aB hm;clear hlf hm hf hfi;go_wp2_with fail
    go_loopg [11] l.length (fun m v wy=> ∃k:Nat,v=vZZ k/\k<=l.length/\l.length-k<=m/\yU w1 wy wb (.slice A fs.length c) (.slice Ar fs.length cr) (.slice Ai W.items.length ci) (Sc.dV W f k))
    case atStart=>exact⟨0,rfl,aBZ _,aBT _,hP⟩
    case round=>
     obtain⟨k,rfl,hk,hmk,Z0⟩:=hrel;clear hP;have hr:=Cf.o.at_ Z0;obtain⟨r,o,sA,sc,rfl,hs,hrow⟩:=hr.file EG.o;have p2:=hr.p2
     by_cases hlk: ¬k<l.length
     ·obtain rfl:k=l.length:=(by omega);have i1:=lC l.length;have i2:=kZ l.length;rw[HE.o] at Z0;have HPy:=aB Z0;clear hlk hk hmk Z0 hr hrow;go_wp2_with fail
      go_roundg (fs.length-(f+1))
      case rel=>exact⟨f+1,by go_num,by have:=bZ.o;omega,aBT _,HPy.o⟩
      case measure=>have:=bZ.o;have:=Hm.o;omega
     replace hlk:=aFM hlk;have kk0:=iZ k;have kk1:=jJ k l.length;have c2:=uX k (by have:=Hle.o;omega);obtain⟨b,o2,rfl,FP,hbl,hc⟩:=hrow (by omega);obtain⟨cs,hi,hcs⟩:=hc k l[k] (aBY hlk);have Hx:aC (l[k]? =some l[k]):=aBY hlk;have hIA:(Sc.aT W f)[k]? =some l[k]:=(by unfold Sc.aT;rw[EG.o];exact aBY hlk);have HU:=aB (Sc.GI W hIA);have HU2:=aB (Sc.yA W Hfi.o (k+1));have Xg:=aB (Sc.yA W Hfi.o k);have HIA:aC (Sc.aT W f=l):=(by show _=_;unfold Sc.aT;rw[EG.o];rfl);generalize l[k]=x at *;obtain⟨pd,pn,pm,pe,pa,pb,Ap,cp,rfl,hn, -, -, -,hcp,⟨vs,hrw,ZO⟩,hq⟩:=hi.form;obtain⟨q0,q1,q2,q3,q4,q5,q6,q7,q8,q9,wF⟩:=mW hcs;obtain⟨OO,hbx⟩:=uS wr 95 (JI x (.pointer pd) (.pointer pn) (.pointer pm) (.pointer pe) (.pointer pa) (.pointer pb) Ap cp);unfold JI at OO hbx;have Nc:=aB hlk;have Na:=aB hmk;have Hn:=aB hn;have Hcp:=aB hcp;have yf:=aB hrw;have aAQ:=aB ZO;have Hq:=aB hq;have HPy:=aB Z0;clear hlk hmk hk hn hcp hrw ZO hq Z0 hi hcs hc hbl FP hrow hr hIA;go_upto_region 23 with fail;obtain⟨bx,hbx0⟩:=dC wr.heap.size;rw[<-hbx0] at hbx⊢;clear hbx0 q0 q1 q2 q3 q4 q5 q6 q7 q8 q9 wF hs p2;have L6:=aB (HPy.o.below OO);have HP2s:=aB OO.size;generalize wr.alloc _=w2 at *;clear OO;have lZ:=(HIt.o f k l x EG.o Hx.o).1;have hdef:=(HIt.o f k l x EG.o Hx.o).2;cases hxd:x.bH with
     |false=>
      rw[hxd] at hbx;have x0:=hbx.cell 0;simp at x0;have hU:Sc.fT W f k x=Sc.EM W f k x:=by unfold Sc.fT;rw[hxd];rfl
      have B_:=Ii Cf.o L6.o EG.o Hx.o hxd (by have:=Xg.o;have:=HUs.o;omega);rw[<-hU,<-HU.o] at B_;clear hU lZ hdef hbx hxd;go_wp2_with fail;refine B_.mono ?_;clear B_ x0;rintro e3 w3 ⟨rfl,hP3,_,_⟩;go_wp2_with fail
      go_roundg (l.length-(k+1))
      case rel=>exact⟨k+1,by go_num,by have:=Nc.o;omega,aBT _,hP3⟩
      case measure=>have:=Nc.o;have:=Na.o;omega
     |true=>
      rw[hxd] at hbx;have x0:=hbx.cell 0;simp at x0;have x3:=hbx.cell 3;simp at x3;obtain⟨hrx,hpl⟩:=hdef hxd;have HN:aC (Sc.dV W f (k+1)=Sc.dV W f k++x.name.toList.map (fun w=>Sc.dM f w.at_ 0 (Sc.dW l k))++Sc.aY f [] x.params++Sc.dG W x (Sc.dS x.params []) x.expr):=by show _=_;rw[HU.o];unfold Sc.fT Sc.PK;rw[hxd,HIA.o,lZ];simp only[if_true,List.append_assoc]
      have Fv:aC ((Sc.dV W f (k+1)).length<=48000000):=aBV HU2.o HUs.o;have Hq2:aC (nK wr F x.base x.expr (.pointer pb)):=Hq.o hxd;have HTw:aC (∀y,x.name=some y->(uM (Sc.bJ l y.text) !=(k:Int))=Sc.dW l k):=fun y hy=>Sc.QC Hx.o hy
      have Hbx:=aB hbx;have J4:=aB hrx;have Hpl:=aB hpl;have Fw:=aB lZ;clear hdef hbx hxd hrx hpl lZ HU HIt Hq;generalize hun:Sc.dV W f (k+1)=un at *;have Hun:=aB hun;clear hun;generalize Sc.dV W f k=us at *;generalize Sc.dW l k=tw at *;have Hl1:aC ((us++x.name.toList.map (fun w=>Sc.dM f w.at_ 0 tw)).length<=48000000/\(us++x.name.toList.map (fun w=>Sc.dM f w.at_ 0 tw)++Sc.aY f [] x.params).length<=48000000):=(by have h1:=Fv.o;rw[HN.o] at h1;simp only[aBW] at h1⊢;exact⟨by omega,by omega⟩);go_upto_if 121 with fail
      go_cut [] (fun wc=>yU w1 wc wb (.slice A fs.length c) (.slice Ar fs.length cr) (.slice (some ⟨r,o,none⟩) W.items.length ci) (us++x.name.toList.map (fun w=>Sc.dM f w.at_ 0 tw))/\aD [44,101] w2 wc/\w2.heap.size<=wc.heap.size)
      case first=>
       cases zA:x.name with
       |none=>have h1:=Hn.o;rw[zA] at h1;obtain rfl:pn=none:=(by have e:Value.pointer pn=oZZ:=h1;injection e);have Nu:=aB zA;clear zA h1 HN;go_wp2_with fail;go_meet;exact⟨by rw[Nu.o];simpa using L6.o,aD.refl _ _,aBT _⟩
       |some y=>
        have h1:=Cf.o.Dp HPy.o L6.o Hn.o;rw[zA] at h1;obtain⟨g,e,_,hQ⟩:=h1;injection e with e;subst e;have hb:=HTw.o y zA;have z2:=hQ.cells.2.2.1;have htp:=uH (Cf.o.at_ L6.o) EG.o y.text;have HQ:=aB hQ;have J5:aC (us.length<=48000000):=by have:=Hl1.o.1;simp only[aBW] at this;show _<=_;omega
        generalize uM (Sc.bJ l y.text)=I at *;have Nu:=aB zA;clear zA HN hQ HTw;cases tw with
        |true=>
         go_wp2_with fail;refine htp.mono ?_;clear htp z2 x3;rintro e4 w4 ⟨rfl,hd4⟩;have wK:=aB hd4;clear hd4;go_upto_region 30 with fail;refine aL 100 (DnS bx g y) ?_;have hdr:=wK.o.trans ((aBU w4.heap.size w4).drew.mono wK.o.size);have hQ4:=HQ.o.NU hdr;have hB4:=Hbx.o.below hdr Hbx.o.lt;have uN:=L6.o.below hdr;generalize w4.drew=w5 at *;have Hdr:=aB hdr;have hS0:DnS bx g y w5:=⟨hB4.cell 3,hQ4.cells.2.2.2.2⟩;unfold DnS at *;clear hdr wK
         iterate 15 refine aO 0 hS0 ?_
         clear hS0;have had:=gP uN (u:=⟨f,y.at_,0,f,y.at_,5⟩) (by have:=J5.o;omega);rw[show iT (⟨f,y.at_,0,f,y.at_,5⟩:Sc.Us)=#[vZZ f,kZZ (y.at_:Int),kZZ 0,vZZ f,kZZ (y.at_:Int),kZZ 5] from rfl] at had;refine aA 15 fun C hC=> ?_
         go_simp;refine had.mono ?_;clear had uN;rintro e6 w6 ⟨rfl,OZ,sH,Ed⟩;have rE:=hB4.aG sH (by decide);have hQ5:=hQ4.aG sH (by decide);refine hC.out _ _ (fun _=>⟨rE.cell 3,hQ5.cells.2.2.2.2⟩) ?_;have pq:=aB OZ;have HK5:=aB ((aD.below Hdr.o).trans sH);have HZ5:=aB (aBV Hdr.o.size Ed);clear hC C hB4 hQ4 rE hQ5 OZ sH Ed;refine aR ?_;go_wp2_with fail;go_meet;exact⟨by rw[Nu.o];exact pq.o,HK5.o,HZ5.o⟩
        |false=>
         go_wp2_with fail;refine htp.mono ?_;clear htp z2 x3;rintro e4 w4 ⟨rfl,hd4⟩;have wK:=aB hd4;clear hd4;go_upto_region 30 with fail;refine aL 100 (DnS bx g y) ?_;have hdr:=wK.o.trans ((aBU w4.heap.size w4).drew.mono wK.o.size);have hQ4:=HQ.o.NU hdr;have hB4:=Hbx.o.below hdr Hbx.o.lt;have uN:=L6.o.below hdr;generalize w4.drew=w5 at *;have Hdr:=aB hdr;have hS0:DnS bx g y w5:=⟨hB4.cell 3,hQ4.cells.2.2.2.2⟩;unfold DnS at *;clear hdr wK
         iterate 15 refine aO 0 hS0 ?_
         clear hS0;have had:=gP uN (u:=⟨f,y.at_,0,f,y.at_,0⟩) (by have:=J5.o;omega);rw[show iT (⟨f,y.at_,0,f,y.at_,0⟩:Sc.Us)=#[vZZ f,kZZ (y.at_:Int),kZZ 0,vZZ f,kZZ (y.at_:Int),kZZ 0] from rfl] at had;refine aA 15 fun C hC=> ?_
         go_simp;refine had.mono ?_;clear had uN;rintro e6 w6 ⟨rfl,OZ,sH,Ed⟩;have rE:=hB4.aG sH (by decide);have hQ5:=hQ4.aG sH (by decide);refine hC.out _ _ (fun _=>⟨rE.cell 3,hQ5.cells.2.2.2.2⟩) ?_;have pq:=aB OZ;have HK5:=aB ((aD.below Hdr.o).trans sH);have HZ5:=aB (aBV Hdr.o.size Ed);clear hC C hB4 hQ4 rE hQ5 OZ sH Ed;refine aR ?_;go_wp2_with fail;go_meet;exact⟨by rw[Nu.o];exact pq.o,HK5.o,HZ5.o⟩
      case rest=>
       obtain⟨Tm,hKc,hzc⟩:=hcut;generalize wc=w3 at *;have hmv: ∀y,F y->w3.heap[y]? =wr.heap[y]? /\w1.heap[y]? =wr.heap[y]? :=fun y hy=>(by have h1:=(Cf.o.same Tm y hy (Cf.o.ok y hy).1).1;have h2:=(Cf.o.same HPy.o y hy (Cf.o.ok y hy).1).1;exact⟨h1.trans h2.symm,h2.symm⟩);have hsz:wr.heap.size<=w3.heap.size:=aBV HP2s.o hzc;have hbr:=GN (f:=f) (cl:=cp) Cf.o Tm (yf.o.keep (F':=fun _=>True) hsz fun y hy _=>⟨(hmv y hy).1,trivial⟩) (aAQ.o.keep fun y hy _=>⟨(hmv y hy).2,hy⟩) Hpl.o L8 (by have:=Hl1.o.1;omega) (by simp);have hBc:=Hbx.o.aG hKc (by decide);have x9:=hBc.cell 9;simp at x9;have HBc:=aB hBc;have Hq3:aC (nK w3 F x.base x.expr (.pointer pb)):=nK.keep hsz (fun y hy _=>⟨(hmv y hy).1,hy⟩) _ _ Hq2.o;have HPc:=aB Tm;generalize us++x.name.toList.map (fun w=>Sc.dM f w.at_ 0 tw)=u1 at *;rw[List.nil_append,show([]:Sc.Env).length=0 from rfl] at hbr;clear Tm hKc hzc hmv hsz hBc x0 x3 Hq2 yf aAQ HTw;go_wp2_with fail;refine hbr.mono ?_;clear hbr x9;rintro e6 w6 ⟨A1,c1,A2,c2,rfl,hs6,FN,BP,y_⟩;obtain⟨hd7,hb7⟩:=uS w6 103 #[.slice A1 (Sc.bK [] x.params).length c1,.slice A2 (Sc.bK [] x.params).length c2];have hfl:(Sc.bK [] x.params).length<=1000000:=aBV (Sc.pK _ _) Hpl.o;have K6:=HBc.o.aG BP (by decide);have Gg:=(K6.below hd7 K6.lt).cell 10;simp at Gg;have hsg:Sc.tK (Sc.bK [] x.params) (Sc.dS x.params []):=Sc.tK.nil.bring x.params;have hex:=Dh Cf.o (x:=x) (l0:=l) (by rw[Fw.o];exact EG.o) _ x.expr (aBT _) J4.o _ _ _ _ A1 c1 A2 c2 (.pointer pb) (FN.below hd7)
        (nK.keep (aBV y_ hd7.size) (fun y hy _=>⟨by have h1:=(Cf.o.same (FN.below hd7) y hy (Cf.o.ok y hy).1).1;have h2:=(Cf.o.same HPc.o y hy (Cf.o.ok y hy).1).1;exact h1.trans h2.symm,hy⟩) _ _ Hq3.o) (hs6.below hd7) hsg (by have:=Fv.o;rw[HN.o] at this;omega) (by have:=J4.o.cnt;omega)
       rw[Fw.o,<-HN.o] at hex;obtain⟨b7,aAc⟩:=dC w6.heap.size;rw[<-aAc] at hb7;have y0:=hb7.cell 0;have y1:=hb7.cell 1;simp at y0 y1;clear hs6 FN BP y_ hb7 K6 hfl hsg hd7 Hq3 HPc HBc;generalize(Sc.bK [] x.params).length=sl at *;go_upto_region 32 with fail;rw[<-aAc];clear aAc;generalize w6.alloc _=w7 at *;go_wp2_with fail;refine hex.mono ?_;clear hex Gg y0 y1;rintro e8 w8 ⟨rfl,hP8,_,_⟩;go_wp2_with fail
       go_roundg (l.length-(k+1))
       case rel=>exact⟨k+1,by go_num,by have:=Nc.o;omega,aBT _,by rw[Hun.o];exact hP8⟩
       case measure=>have:=Nc.o;have:=Na.o;omega
  replace hlt:=aFM hlt;have jr0:=iZ i;have jr1:=jJ i fs.length;have c1w:=uX i (by have:=TB.o;omega);obtain⟨br,o,rfl,hbl,hc0,hc1⟩:=Hr.o.at_ hlt;have q1:=(hd.cell (p:=⟨br,o+i*2+1,none⟩) hbl).trans hc1;have hxl:=mq.o fs[i] (List.getElem_mem hlt);have Hx:aC (fs[i]? =some fs[i]):=aBY hlt;have HIt:=aB (Sc.Rq fs i hlt);generalize fs[i]=x at *;have hpr:=TS x.2 wr (by omega);have xz:=aB hxl;have bZ:=aB hlt;have Hm:=aB hm;have HN:=aB hN;have Hd:=aB hd;clear hc0 hc1 hbl hlt hm hi hN hd hxl;go_wp2_with fail;refine hpr.mono ?_;clear hpr q1;rintro e2 w2 ⟨q,fp,rfl,hnp,_,hd2⟩;have pz:=aB (HN.o.below hd2);have nG:=aB (Hd.o.trans (hd2.mono Hd.o.size));have Hnp:aC (EE w2 (mf P wr w2) (.branch 2 0 (Tr.vV x.2 (Lx.dR 0 x.2))) 0 fp (pZZ q)):=EE.keep (aBT _) (fun z hz hl=>⟨rfl,.inr ⟨hz,hl⟩⟩) _ _ _ _ hnp;generalize mf P wr w2=P2 at *;clear hnp hd2 HN Hd;go_upto_region 6 with fail;have ZQ:=(aBU w2.heap.size w2).alloc (aBT _) (.cells #[pZZ q] 89);have Y7:=aV.new w2 89 #[pZZ q];have HN3:=aB (pz.o.below ZQ);obtain⟨Ih,hrR⟩:=HN3.o.Q4;have HrR:=aB hrR;have Wz:aC (i<=16):=by have:=TB.o;have:=bZ.o;show _<=_;omega
  have p1:=pz.o.blk.cell 1;simp at p1;have Fu:aC (wb+1<=w2.heap.size):=pz.o.blk.lt;have Bu:=aB ZQ;clear hrR ZQ;go_wp2_with (at_builtin;refine wpList_append_lies _ rfl _ _ 40 rfl (wb+1) 89 ir0 _ 1 8 underlying40 ir1 ir2 ir3 ir4 rfl (by omega) _ i _ rfl HrR.o ⟨w2.heap.size,0,none⟩ 1 1 [pZZ q] rfl rfl (aCK (cs:=#[pZZ q]) (t:=89) (fr:=(0,0)) Y7) (by simp[aCA]) (by omega) (by have:=Wz.o;unfold maxLen;omega) (by have:=Wz.o;omega) (by have:=Fu.o;simp;omega) _ rfl ?_;intro g cap w3 ho3 hg3 hat3 hlt3;obtain⟨p2,f2,Np⟩:=HN3.o.aBo HrR.o ho3 hg3 hg3.size (hat3.imp id (fun e=>by rw[e];exact aBT _));have Hg3:=aB hg3;have HN4:=aB Np;clear p1 Y7 ho3 hg3 Np hat3);have yo:aC (∀y,P2 y->(w3.setCell ⟨wb,1,none⟩ (.slice (some ⟨g,0,none⟩) (i+1) cap)).heap[y]? =w2.heap[y]?):=fun y hy=>(by have h1:=pz.o.lt y hy;rw[Below.heap_setCell _ _ _ y (Nat.ne_of_gt h1.1),Hg3.o.block y (by simp;omega) (fun e=>pz.o.o_ y e.symm hy),Below.heap_alloc w2 _ y h1.2]);have Hsz4:aC (w2.heap.size<=(w3.setCell ⟨wb,1,none⟩ (.slice (some ⟨g,0,none⟩) (i+1) cap)).heap.size):=(by have h1:=Hg3.o.size;have h2:=Bu.o.size;show _<=_;simp;omega);have wK:aC (Below w.heap.size w (w3.setCell ⟨wb,1,none⟩ (.slice (some ⟨g,0,none⟩) (i+1) cap))):=(by have h0:w.heap.size<=w2.heap.size:=nG.o.size;refine((nG.o.trans (Bu.o.mono h0)).grown Hg3.o (by have:=Bu.o.size;omega) fun q hq=> ?_).setCell (p:=⟨wb,1,none⟩) (by rw[Hwb.o];exact aBT _) _;have:=(HrR.o.lt q hq).1;have:=Hwb.o;omega);clear p2 f2 Bu HN3 HrR Hg3 hlt3;generalize w3.setCell _ _=w4 at *;obtain⟨q',dB,e0,_,hF0,Ak,ck,vk,hQ,hck,hrk,hks⟩:=Hnp.o;cases e0;have HQ:aC (w2.cell? ⟨q,3,none⟩=some (.slice Ak (Tr.vV x.2 (Lx.dR 0 x.2)).length ck)/\P2 q):=⟨hQ.cell 3,hF0⟩;have Hrk:=aB hrk;have ym:=aB hks;clear hQ hck hrk hks hF0 Hnp;obtain⟨L,hL⟩:=dC ((Tr.vV x.2 (Lx.dR 0 x.2)).length);rw[<-hL] at HQ;have HL:=aB hL;clear hL
  go_loopg [6,7] L (fun m v u wz=> ∃(k:Nat) (P3:Nat->Prop) (Al:Option Addr) (cl:Nat),v=.slice Al (Sc.bM i ((Sc.dN x.2).take k)).length cl/\u=vZZ k/\k<=L/\L-k<=m/\SX wz (wb+1) P3 (Sc.bM i ((Sc.dN x.2).take k)) Al cl/\DX wz wb P3 (some ⟨br,o,none⟩) c fs (i+1) i (Sc.GY fs i) (some ⟨g,0,none⟩) cap Ai ci/\Below w.heap.size w wz/\w4.heap.size<=wz.heap.size/\∀y,P2 y->P3 y/\wz.heap[y]? =w2.heap[y]?)
  case atStart=>exact⟨0,_,none,0,rfl,rfl,aBZ _,aBT _,SX.nil,HN4.o,wK.o,aBT _,fun y hy=>⟨Or.inl hy,yo.o y hy⟩⟩
  case round=>
   clear HN4 wK yo;obtain⟨k,P3,Al,cl,rfl,rfl,hk,hmk,hNl,hNr,hdz,hsz,hP3⟩:=hrel;generalize wr=wz at *;have y3:=(aCM (a:=⟨q,3,none⟩) (hP3 q HQ.o.2).2).trans HQ.o.1
   by_cases hlk: ¬k<L
   ·obtain rfl:k=L:=(by omega);have i1:=lC k;have i2:=kZ k;have hall:(Sc.dN x.2).take k=Sc.dN x.2:=aDY (by rw[HL.o];unfold Tr.vV Sc.dN;rw[aBW,aCE];omega);rw[hall] at hNl;rw[hall];generalize hle:Sc.bM i (Sc.dN x.2)=le at *;have ZQ:=(aBU wz.heap.size wz).alloc (aBT _) (.cells #[.slice Al le.length cl] 91);have Y7:=aV.new wz 91 #[.slice Al le.length cl];obtain⟨hN5,hRl⟩:=(hNr.below ZQ).take (hNl.grow ZQ);obtain⟨ss,hss,hown,hits⟩:=hN5.si;have p2:=hNr.blk.cell 2;simp at p2;have Fu:aC (wb+1<=wz.heap.size):=hNr.blk.lt;have Wz:aC (i<=16):=(by have:=TB.o;have:=bZ.o;show _<=_;omega);have HN5:=aB hN5;have HRl:=aB hRl;have Hss:=aB hss;have OG:=aB hown;have Hits:=aB hits;have Bu:=aB ZQ;have Hdz:=aB hdz;have Hle:=aB hle;clear hlk hk hmk hNl hNr hdz hsz hP3 hall hN5 hRl hss hown hits ZQ hle;go_wp2_with (at_builtin;refine wpList_append_lies _ rfl _ _ 41 rfl (wb+1) 91 iI0 _ 1 24 underlying41 iI1 iI2 iI3 iI4 rfl (by omega) _ i _ rfl OG.o ⟨wz.heap.size,0,none⟩ 1 1 [.slice Al le.length cl] rfl rfl (aCK (cs:=#[.slice Al le.length cl]) (t:=91) (fr:=(0,0)) Y7) (by simp[aCA]) (by omega) (by have:=Wz.o;unfold maxLen;omega) (by have:=Wz.o;omega) (by have:=Fu.o;simp;omega) _ rfl ?_;intro g2 cap2 w5 FL hg5 hat5 lD;obtain⟨p5,f5,En⟩:=HN5.o.YD Hss.o OG.o Hits.o HRl.o FL hg5 hg5.size (hat5.imp id (fun e=>by rw[e];exact aBT _));have Hg5:=aB hg5;have HN6:=aB En;clear p2 Y7 FL hg5 En hat5);have Hd6:aC (Below w.heap.size w (w5.setCell ⟨wb,2,none⟩ (.slice (some ⟨g2,0,none⟩) (i+1) cap2))):=by have h0:w.heap.size<=wz.heap.size:=Hdz.o.size;refine((Hdz.o.trans (Bu.o.mono h0)).grown Hg5.o (by have:=Bu.o.size;omega) fun q hq=> ?_).setCell (p:=⟨wb,2,none⟩) (by rw[Hwb.o];exact aBT _) _;have:=(OG.o.lt q hq).1;have:=Hwb.o;omega
    go_roundg (fs.length-(i+1))
    case rel=>exact⟨i+1,_,_,_,_,_,by go_num,by have:=bZ.o;omega,aBT _,by rw[HIt.o];exact HN6.o,Hd6.o⟩
    case measure=>have:=bZ.o;have:=Hm.o;omega
   replace hlk:=aFM hlk;have kr0:=iZ k;have kr1:=jJ k L;have JF:aC ((Tr.vV x.2 (Lx.dR 0 x.2)).length<=1000000):=(by obtain⟨hS,hT,_⟩:=Sc.side (s:=x.2) xz.o;have h1:=(Tr.I5 hS).2.2;have:=xz.o;show _<=_;omega);have c2w:=uX k (by have:=JF.o;have:=HL.o;omega);have hgp:(Tr.vV x.2 (Lx.dR 0 x.2))[k]? =some ((Tr.vV x.2 (Lx.dR 0 x.2))[k]'(by rw[<-HL.o];exact hlk)):=aBY (by rw[<-HL.o];exact hlk);obtain⟨a',fp',v,hv,hnpk⟩:=ym.o.rz hgp;obtain⟨g2,rfl,hPg,hkc,ncs,Y0⟩:=hnpk.kind;obtain⟨bk,ok,rfl,hPk,hblk,hck⟩:=Hrk.o (by have:=(aCD.1 hv).1;omega);have y4:=(aCM (a:=⟨bk,ok+k,none⟩) (hP3 bk hPk).2).trans (hck k _ hv);have y5:=(aCM (a:=⟨g2,0,none⟩) (hP3 g2 hPg).2).trans hkc;have IY:=Sc.aAz hgp;generalize(Tr.vV x.2 (Lx.dR 0 x.2))[k]'(by rw[<-HL.o];exact hlk)=p at *;have Nc:=aB hlk;have Na:=aB hmk;have HNl:=aB hNl;have HNr:=aB hNr;have Hdz:=aB hdz;have uT:=aB hsz;have Cg:=aB hP3;have aAM:=aB IY;have Hgp:=aB hgp;have Hv:=aB hv;clear hlk hmk hNl hNr hdz hsz hP3 IY hgp hv hk Y0 hck hblk hkc hnpk
   by_cases hit:Sc.UJ p=3\/Sc.UJ p=4
   ·obtain⟨kd,hkd,hpk⟩: ∃kd,(Sc.dN x.2)[k]? =some kd/\p=kd.part:=by
     rcases aAM.o with h|⟨_,kk,t,a,rfl⟩
     ·exact h
     ·exact absurd hit (by simp[Sc.UJ])
    have hii:=Sc.Dm.1 (by rw[<-hpk];exact hit);have HT:=aB (Sc.LX (i:=i) hkd hii);obtain⟨hS,_,_⟩:=Sc.side (s:=x.2) xz.o;have hks:jZ w2 P2 ((Tr.bV x.2 (Lx.dR 0 x.2) ((Lx.dR 0 x.2).length+1) 0).1.map (·.part)++Tr.sP x.2 (Lx.dR 0 x.2) (Tr.bV x.2 (Lx.dR 0 x.2) ((Lx.dR 0 x.2).length+1) 0).2) (Tr.dD x.2 (Lx.dR 0 x.2) 0) dB vk:=(by rw[hS.first];exact ym.o);obtain⟨v',hv',hqk⟩:=Dw hS ((Lx.dR 0 x.2).length+1) 0 (aBZ _) dB vk hks k kd hkd;rw[Hv.o] at hv';injection hv' with hv';subst hv';have hqz:nK wz P3 kd.base kd.part (pZZ g2):=nK.keep (aBV Hsz4.o uT.o) (fun y hy _=>⟨(Cg.o y hy).2,(Cg.o y hy).1⟩) _ _ hqk;have hko:=(Sc.yO xz.o).kids kd (List.mem_of_getElem? hkd) hii;have hmd:=Il (n:=i) hko.1 hko.2.2 hqz fun y hy=>(HNr.o.lt y hy).2
    clear hks hqk hqz hko hS;have hb34:(((Sc.UJ p:Int)==(3:Int))=true)\/(((Sc.UJ p:Int)==(3:Int))=false/\((Sc.UJ p:Int)==(4:Int))=true):=by
     rcases(show(Sc.UJ p=3)\/(Sc.UJ p≠3/\Sc.UJ p=4) by omega)with h|⟨h,h'⟩
     ·left;rw[h];rfl
     ·right;rw[h'];exact⟨rfl,rfl⟩
    have Hlkl:aC ((Sc.bM i ((Sc.dN x.2).take k)).length<=1000000):=(by have h0:=JF.o;have h1:=HL.o;have h2:=Nc.o;have h3:=List.length_filter_le Sc.gU ((Sc.dN x.2).take k);rw[List.length_take] at h3;show _<=_;unfold Sc.bM;rw[aCE];omega);generalize Sc.bM i ((Sc.dN x.2).take k)=lk at *;generalize Sc.dZ i kd=X at *;generalize(Sc.UJ p:Int)=kn at *;clear hit hii hkd hpk aAM Hgp Hv;rcases hb34 with h3|⟨h3,h4⟩
    all_goals
     go_wp2_with fail;refine hmd.mono ?_;clear hmd y3 y4 y5;rintro e5 w5 ⟨cs,rfl,hRi,hd5⟩;obtain⟨pd,pn,pm,pe,pa,pb,Ap,cp,rfl, -⟩:=hRi.form;obtain⟨hd6,El⟩:=uS w5 95 (JI X (.pointer pd) (.pointer pn) (.pointer pm) (.pointer pe) (.pointer pa) (.pointer pb) Ap cp);have HRi:=aB hRi;have IU:=aB hd5;clear hRi hd5;unfold JI at hd6 El⊢;go_upto_region 14 with fail;obtain⟨b9,hb90⟩:=dC w5.heap.size;rw[<-hb90] at El⊢;clear hb90;generalize w5.alloc _=w6 at *;have q0:w6.cell? ⟨b9,0,none⟩=some (.bool (!X.bH)):=El.cell 0;have q1:w6.cell? ⟨b9,1,none⟩=some (.bool X.yZ):=El.cell 1;have q2:w6.cell? ⟨b9,2,none⟩=some (.pointer pd):=El.cell 2;have q3:w6.cell? ⟨b9,3,none⟩=some (.pointer pn):=El.cell 3;have q4:w6.cell? ⟨b9,4,none⟩=some (.pointer pm):=El.cell 4;have q5:w6.cell? ⟨b9,5,none⟩=some (.pointer pe):=El.cell 5;have q6:w6.cell? ⟨b9,6,none⟩=some (.bool X.has):=El.cell 6;have q7:w6.cell? ⟨b9,7,none⟩=some (.pointer pa):=El.cell 7;have q8:w6.cell? ⟨b9,8,none⟩=some (.bool X.jT):=El.cell 8;have q9:w6.cell? ⟨b9,9,none⟩=some (.slice Ap X.params.length cp):=El.cell 9;have wF:w6.cell? ⟨b9,10,none⟩=some (.pointer pb):=El.cell 10;obtain⟨hd7,Y7⟩:=uS w6 95 (JI X (.pointer pd) (.pointer pn) (.pointer pm) (.pointer pe) (.pointer pa) (.pointer pb) Ap cp);obtain⟨jc,hL7,vv,X_⟩:=HNr.o.addX HNl.o IU.o HRi.o (hd6.trans (hd7.mono hd6.size));have HP7:aC (∀y,P2 y->mf P3 wz (w6.alloc (.cells (JI X (.pointer pd) (.pointer pn) (.pointer pm) (.pointer pe) (.pointer pa) (.pointer pb) Ap cp) 95)) y/\(w6.alloc (.cells (JI X (.pointer pd) (.pointer pn) (.pointer pm) (.pointer pe) (.pointer pa) (.pointer pb) Ap cp) 95)).heap[y]? =w2.heap[y]?):=fun y hy=>⟨.inl (Cg.o y hy).1,(X_.block y (HNr.o.lt y (Cg.o y hy).1).2).trans (Cg.o y hy).2⟩
     generalize mf P3 wz (w6.alloc _)=P7 at *;obtain⟨css,hcs,hown,hall⟩:=hL7.ex;have HN7:=aB jc;have HL7:=aB hL7;have WE:=aB vv;have Hcs:=aB hcs;have OG:=aB hown;have aBO:=aB hall;have aAT:=aB X_;have Fu:aC (wb+1<=(w6.alloc (.cells (JI X (.pointer pd) (.pointer pn) (.pointer pm) (.pointer pe) (.pointer pa) (.pointer pb) Ap cp) 95)).heap.size):=jc.blk.lt;clear jc hL7 vv hcs hown hall X_ hd6 hd7 El HNr HNl HRi IU Cg;unfold JI at *;go_wp2_with (at_builtin;refine wpList_append_lies _ rfl _ _ 91 rfl (wb+1) 95 iX0 _ 11 96 underlying91 iX1 iX2 iX3 iX4 rfl (by omega) _ lk.length _ rfl OG.o ⟨w6.heap.size,0,none⟩ 1 1 [.bool (!X.bH),.bool X.yZ,.pointer pd,.pointer pn,.pointer pm,.pointer pe,.bool X.has,.pointer pa,.bool X.jT,.slice Ap X.params.length cp,.pointer pb] rfl rfl (aCK (cs:=#[.bool (!X.bH),.bool X.yZ,.pointer pd,.pointer pn,.pointer pm,.pointer pe,.bool X.has,.pointer pa,.bool X.jT,.slice Ap X.params.length cp,.pointer pb]) (t:=95) (fr:=(0,0)) Y7) (by simp[aCA]) (by omega) (by have:=Hlkl.o;unfold maxLen;omega) (by have:=Hlkl.o;omega) Fu.o _ rfl ?_;intro g8 cap8 w8 ho8 uw hat8 hlt8;obtain⟨hN8,hL8⟩:=HN7.o.aBm HL7.o WE.o Hcs.o aBO.o OG.o ho8 uw uw.size (hat8.imp id (fun e=>by rw[e];exact aBT _));have Hg8:=aB uw;have HN8:=aB hN8;have HL8:=aB hL8;clear Y7 ho8 uw hN8 hL8 hat8)
     go_roundg (L-(k+1))
     case rel=>
      refine⟨k+1,P7,some ⟨g8,0,none⟩,cap8,by rw[HT.o,aBW];rfl,by go_num,by have:=Nc.o;omega,aBT _,by rw[HT.o];exact HL8.o,HN8.o,?_,?_,fun y hy=>⟨(HP7.o y hy).1,?_⟩⟩
      ·refine(Hdz.o.trans (aAT.o.mono Hdz.o.size)).grown Hg8.o (aBV Hdz.o.size aAT.o.size) fun q hq=> ?_
       have:=(OG.o.lt q hq).1;have:=Hwb.o;omega
      ·exact aBV uT.o (aBV aAT.o.size Hg8.o.size)
      ·exact(Hg8.o.block y (HN7.o.lt y (HP7.o y hy).1).2 fun e=>HL7.o.nr y e.symm (HP7.o y hy).1).trans (HP7.o y hy).2
     case measure=>have:=Nc.o;have:=Na.o;omega
   ·have HT:aC (Sc.bM i ((Sc.dN x.2).take (k+1))=Sc.bM i ((Sc.dN x.2).take k)):=Sc.OU fun kd hkd=>by
     rcases aAM.o with ⟨kd',hkd',rfl⟩|⟨hge,_⟩
     ·rw[hkd'] at hkd;injection hkd with hkd;subst hkd;cases e:Sc.gU kd' with
      |false=>rfl
      |true=>exact absurd (Sc.Dm.2 e) hit
     ·have:=(aCD.1 hkd).1;omega
    have n3:((Sc.UJ p:Int)==(3:Int))=false:=(by simp;omega);have n4:((Sc.UJ p:Int)==(4:Int))=false:=(by simp;omega);generalize(Sc.UJ p:Int)=kn at *;clear hit;go_wp2_with fail
    go_roundg (L-(k+1))
    case rel=>exact⟨k+1,P3,Al,cl,by rw[HT.o],by go_num,by have:=Nc.o;omega,aBT _,by rw[HT.o];exact HNl.o,HNr.o,Hdz.o,uT.o,Cg.o⟩
    case measure=>have:=Nc.o;have:=Na.o;omega
open Go.RowKit Go.ChangeShapes Go.WideShapes Go.Deep
namespace Uz
theorem append{H:Type}(l r:List (DataW H)):Rows.uptoBulkAll (l++r)=Rows.uptoBulkAll l+Rows.uptoBulkAll r:=by
 induction l with
 |nil=>simp[Rows.uptoBulkAll]
 |cons x l ih=>simp only[List.cons_append,Rows.uptoBulkAll,ih];omega
end Uz
theorem SV{w:World}{a:Addr}{k:Nat}{u:Value}(h:w.cell? (a.add k)=some u):w.cell? ⟨a.block,a.off+k,none⟩=some u:=by
 unfold Addr.add at h
 by_cases hk:k=0
 ·subst hk;simp only[if_true,Nat.add_zero] at h⊢;unfold World.cell? at h⊢;split at h
  ·rename_i hh;rw[hh]
   by_cases hs:a.spot.isSome=true
   ·simp[hs] at h
   ·simpa [hs] using h
  ·cases h
 ·rw[if_neg hk] at h;exact h
theorem Gw{w:World}{a:Addr}{k:Nat}{u:Value}(h:w.cell? (a.add k)=some u)(hk:k=0):a=⟨a.block,a.off,none⟩:=by
 subst hk;unfold Addr.add at h;simp only[if_true] at h;obtain⟨b,o,s⟩:=a;unfold World.cell? at h;split at h
 ·cases s with
  |none=>rfl
  |some _=>simp at h
 ·cases h
section
variable{H:Type}{enc:TypeId×Value->H}{P:Program}{w:World}{base:Nat}{spare:Nat->Bool}{held:Bool}
theorem AQ{t e:TypeId}{fs:Array Field}{fuel:Nat}{cs:List Value}{x:DataW H×List MemPlace}(ht:P.underlying t=some (.slice e))(he:P.underlying e=some (.struct fs))
  (hone:oneCellFields P fs=true) (hC:P.cellsOf e=fs.size) (h:aGG enc P w base spare held fuel t cs=some x):
  (cs=[nZZ]/\x=(.nil,[]))\/
  ∃(a:Addr) (len cap m:Nat) (D:Nat->DataW H) (Pl:Nat->List MemPlace),cs=[.slice (some a) len cap]/\base<=a.block/\len<=cap/\cap<=maxLen/\m=(if spare a.block then cap else len)/\
   x=(.slice ((aEN len).map D) ((aEN (m-len)).map fun j=>D (len+j)),MemPlace.row a (m*fs.size)++(aEN m).flatMap Pl)/\
   ∀i,i<m->∃(ys:List (DataW H×List MemPlace)) (n:Nat),D i=.agg (ys.map (·.1))/\Pl i=ys.flatMap (·.2)/\ys.length=fs.size/\
    ∀(j:Nat) (f:Field),fs[j]? =some f->∃(v:Value) (y:DataW H×List MemPlace),w.cell? (a.add (i*fs.size+j))=some v/\ys[j]? =some y/\aGG enc P w base spare held n f.type [v]=some y:=by
 rcases open_slice ht h with h0|⟨a,len,cap,m,n,D,Pl,hcs,hb,hl,hm,hmm,hx,hi⟩
 ·exact .inl h0
 ·refine .inr ⟨a,len,cap,m,D,Pl,hcs,hb,hl,hm,hmm,by rw[hC] at hx;exact hx,fun i him=> ?_⟩;obtain⟨cs',hc,ht'⟩:=hi i him;rw[hC] at hc;obtain⟨ys,n',hn',hy,hlen,hyl,hf⟩:=DataW.trod_struct he ht';obtain⟨_,hcl,hat⟩:=World.cells?_some hc;simp only[Prod.mk.injEq] at hy;refine⟨ys,n',hy.1,hy.2,hyl,fun j f hj=> ?_⟩;obtain⟨ho,hk⟩:=hone_of hone j f hj;have hjl:j<fs.size:=(Array.getElem?_eq_some_iff.1 hj).1;have hcell:=hat j hjl;have hv:cs'[j]? =some (cs'[j]'(by omega)):=aBY (by omega);have h1:=hf j f hj;rw[ho,hk] at h1;have hone':(cs'.drop j).take 1=[cs'[j]'(by omega)]:=by rw[List.drop_eq_getElem_cons (by omega)];rfl
  rw[hone'] at h1;have hys:ys[j]? =some (ys[j]'(by omega)):=aBY (by omega);refine⟨_,_,?_,hys,h1.trans hys⟩;rw[<-Go.Deep.add_add,hcell,hv]
end
def flB(l:List Fl):Nat:=(l.map fun f=>f.1.length+f.2.length).sum
theorem Eu(l:List Fl):(l.flatMap C8).length=l.length*2:=by
 induction l with
 |nil=>rfl
 |cons f l ih=>rw[List.flatMap_cons,aBW,ih,List.length_cons];simp[C8];omega
theorem jo{l:List Fl}{f:Fl}(h:f∈l):f.1.length+f.2.length<=flB l:=by
 induction l with
 |nil=>cases h
 |cons g l ih=>
  unfold flB at *;rw[aDH,aFB];rcases List.mem_cons.1 h with rfl|h
  ·omega
  ·have:=ih h;omega
theorem U3{H:Type}{enc:TypeId×Value->H}{w:World}{base:Nat}{spare:Nat->Bool}{held:Bool}{b0:Nat}{v:Value}{d:DataW H}{p:List MemPlace}
  (hv:Value.okWide aBS w .any b0 22 v) (h:DataW.Trod enc aBS w base spare held 22 v d p):
  ∃(A:Option Addr) (c:Nat) (l:List Fl),v=.slice A l.length c/\EI w A l/\l.length<=c/\l.length+flB l+1<=Rows.uptoBulk d:=by
 obtain⟨A,len,cap,rfl⟩:=okWide_slice underlying22 hv;obtain⟨fuel,hf⟩:=h;rcases AQ underlying22 underlying66 (by kernel_rfl) (by kernel_rfl) hf with ⟨hcs,hx⟩|⟨a,len',cap',m,D,Pl,hcs,hbs,hl,hm,hmm,hx,hi⟩
 ·simp only[Value.cells,List.cons.injEq,aBX.injEq,and_true] at hcs;obtain⟨rfl,rfl,rfl⟩:=hcs;exact⟨none,0,[],rfl,Rd.none_,aBT _,by simp only[Prod.mk.injEq] at hx;rw[hx.1];simp[Rows.uptoBulk,flB]⟩
 ·simp only[Value.cells,List.cons.injEq,aBX.injEq,and_true] at hcs;obtain⟨rfl,rfl,rfl⟩:=hcs;have hlm:len<=m:=by rw[hmm];split<;>omega
  have key: ∀n,n<=len->∃l:List Fl,l.length=n/\(∀i (hi:i<l.length),∀j u,(C8 l[i])[j]? =some u->w.cell? ⟨a.block,a.off+(i*2+j),none⟩=some u)/\l.length+flB l<=Rows.uptoBulkAll ((aEN n).map D):=by
   intro n
   induction n with
   |zero=>intro _;exact⟨[],rfl,by simp,by simp[flB]⟩
   |succ n ih=>
    intro hn;obtain⟨l,hln,hc,hbk⟩:=ih (by omega);obtain⟨ys,k,hD,_,hyl,hfs⟩:=hi n (by omega);obtain⟨v0,y0,c0,e0,t0⟩:=hfs 0 _ rfl;obtain⟨v1,y1,c1,e1,t1⟩:=hfs 1 _ rfl;obtain⟨x0,q0,rfl,_⟩:=aHA underlying9 t0;obtain⟨x1,q1,rfl,_⟩:=aHA underlying9 t1;simp only[List.cons.injEq,and_true] at q0 q1;subst q0 q1;refine⟨l++[(x0.data.toList,x1.data.toList)],by simp[hln],fun i hi j u hu=> ?_,?_⟩
    ·rw[List.getElem_append] at hu;split at hu
     ·exact hc i (by assumption) j u hu
     ·have hin:i=n:=(by simp at hi;omega);subst hin;simp[C8] at hu
      match j,hu with
      |0,hu=>simp at hu;subst hu;exact SV c0
      |1,hu=>simp at hu;subst hu;exact SV c1
    ·rw[List.range_succ,aDI,Uz.append]
     match ys,hyl,e0,e1 with
     | [z0,z1],_,e0,e1=>simp at e0 e1;subst e0 e1;unfold flB at *;simp only[aDH,List.map_nil,Rows.uptoBulkAll,hD,Rows.uptoBulk,aBW,List.length_singleton,aDI,List.sum_append,aFB,List.sum_nil];omega
  obtain⟨l,hln,hc,hbk⟩:=key len (aBT _);subst hln;refine⟨some a,cap,l,rfl,⟨Eu l,fun hn=> ?_⟩,hl,?_⟩
  ·refine⟨a.block,a.off,?_,?_,?_⟩
   ·obtain⟨ys,k,_,_,_,hfs⟩:=hi 0 (by omega);obtain⟨v0,y0,c0,_⟩:=hfs 0 _ rfl;rw[<-Gw c0 (by simp)]
   ·have:=hc 0 hn 0 _ rfl;exact aDA w ⟨a.block,_,none⟩ this
   ·intro j u hu;have hj:j<l.length*2:=by
     have:=(aCD.1 hu).1
     rwa [Eu] at this
    obtain⟨q,rfl|rfl⟩: ∃q,j=q*2\/j=q*2+1:=⟨j/2,by omega⟩
    ·have hi2:q<l.length:=(by omega);have hg:=VE l q hi2;rw[hg.1] at hu;injection hu with hu;subst hu;exact hc q hi2 0 _ rfl
    ·have hi2:q<l.length:=(by omega);have hg:=VE l q hi2;rw[hg.2] at hu;injection hu with hu;subst hu;exact hc q hi2 1 _ rfl
  ·simp only[Prod.mk.injEq] at hx;rw[hx.1];simp only[Rows.uptoBulk];omega
open Go.ChangeShapes Go.WideShapes Go.RowKit
theorem aa{W:World}(h:W.ShapedOpen aBS): ∃m,lN W m:=
 Go.Proofs.cell_of_shapedOpen_int (zero:=#[kZZ 0]) (t:=3) h (by decide) (by kernel_rfl) rfl (by kernel_rfl) (by kernel_rfl) underlying3
namespace LM
variable{W:World}
theorem Vw:Rows.laid_unicode_utf8_acceptRanges=Lib.acceptData:=by kernel_rfl
theorem D5:Rows.laid_unicode_utf8_first=Lib.firstData:=Pinned.utf8First_eq
def t_:DataW Unit->List Value
 | .agg ds=>ds.map fun
  | .lit (.int k z)=>.int k z
  |_=>.bool false
 |_=>[]
noncomputable def Z9 (os:Os):World:=
 let w0:=World.holding aBS os ⟨#[],#[],[]⟩
 let put (h:Array Obj) (g:Nat) (cs:Array Value):Array Obj:=h.modify g fun
  | .cells _ t frozen=>.cells cs t frozen
  |o=>o
 let h1:=put w0.heap 4 (Lib.firstTab.map fun z=>Value.int .u8 z).toArray
 let h2:=put h1 5 ((aEN 16).flatMap fun i=>[Value.int .u8 (Lib.accLo i),Value.int .u8 (Lib.accHi i)]).toArray
 let h3:=put h2 9 (t_ Rows.laid_math_bits_deBruijn32tab).toArray
 let h4:=put h3 10 (t_ Rows.laid_math_bits_deBruijn64tab).toArray
 let h5:=put h4 8 (t_ Rows.laid_internal_strconv_uint64pow10).toArray
 let n:=h5.size
 let h6:=h5.push (.cells #[.string ⟨#[118,97,108,117,101,32,111,117,116,32,111,102,32,114,97,110,103,101]⟩] 401)
 let h7:=h6.push (.cells #[.string ⟨#[105,110,118,97,108,105,100,32,115,121,110,116,97,120]⟩] 401)
 let h8:=put h7 7 #[.iface 399 (pZZ n)]
 let h9:=put h8 6 #[.iface 399 (.pointer (some ⟨n+1,0,none⟩))]
 {w0 with heap:=h9}
theorem et:aBS.globalNamed "errors.errorType" =some 1:=by kernel_rfl
theorem rt:(aBS.cutTypes.find? (·.1== "internal/reflectlite.rtype")).map (·.2)=some 289:=by kernel_rfl
theorem m_:((aEN 442).filter fun t=>aBS.rowNamed t [101,114,114,111,114])=[26]:=by kernel_rfl
theorem aBh:aBS.types.size=442:=by kernel_rfl
theorem jw(h:handlesMet aBS [("errors.errorType",Rows.laid_errors_errorType)] W):xY W:=by
 obtain⟨name,u,ty,e1,e2,e3,e4,e5⟩:=h _ (aCH.2 rfl);have en:name=[101,114,114,111,114]:=(aDB.inj e1).symm;subst en;obtain rfl:=aDB.inj (rt.symm.trans e2);have hm:ty∈(aEN 442).filter fun t=>aBS.rowNamed t [101,114,114,111,114]:=List.mem_filter.2 ⟨List.mem_range.2 (by rw[<-aBh];exact e3),e4⟩
 rw[m_] at hm;obtain rfl:=aCH.1 hm;have hh:typeHandle aBS 26=.pointer (some ⟨11,26,none⟩):=by kernel_rfl
 rw[hh] at e5;unfold xY;simpa using World.var?_cell et e5 0
abbrev vJ:List (String×DataW Unit):=[("math/bits.deBruijn32tab",Rows.laid_math_bits_deBruijn32tab),("math/bits.deBruijn64tab",Rows.laid_math_bits_deBruijn64tab),("internal/strconv.uint64pow10",Rows.laid_internal_strconv_uint64pow10),("unicode/utf8.acceptRanges",Rows.laid_unicode_utf8_acceptRanges),("strconv.ErrRange",Rows.laid_strconv_ErrRange),("strconv.ErrSyntax",Rows.laid_strconv_ErrSyntax),("amanuensis/lex.words",Rows.laid_amanuensis_lex_words),("unicode/utf8.first",Rows.laid_unicode_utf8_first)]
theorem aBj{l:List (String×DataW Unit)}(h:laidMet aBS l W)(h1:("unicode/utf8.acceptRanges",Rows.laid_unicode_utf8_acceptRanges)∈l)(h2:("unicode/utf8.first",Rows.laid_unicode_utf8_first)∈l):T8 W:=by
 rw[Vw] at h1;rw[D5] at h2;exact utf8Tabs_of_reads (ρ:=Tryz.lays197_ren) {Tryz.lays197 with} ⟨by kernel_rfl,by kernel_rfl,by kernel_rfl,by kernel_rfl,by kernel_rfl,by kernel_rfl,by kernel_rfl⟩ (Lib.laidMet.reads h h2) (Lib.laidMet.reads h h1)
theorem gW:aBS.globalNamed "amanuensis/lex.words" =some 3:=by kernel_rfl
theorem PM{H:Type}{enc:TypeId×Value->H}{P:Program}{w:World}{base:Nat}{sp:Nat->Bool}{held:Bool}{fuel:Nat}{t e:TypeId}{n:Nat}{cs:List Value}{zs:List Bs}{p:List MemPlace}
  (ht:P.underlying t=some (.array n e)) (he:P.underlying e=some .string) (hce:P.cellsOf e=1) (hct:P.cellsOf t=n)
  (h:aGG enc P w base sp held fuel t cs=some (.agg (zs.map fun z=>.lit (.string z)),p)):cs=mR zs:=by
 cases fuel with
 |zero=>simp[aGG] at h
 |succ fuel=>
  simp only[aGG,ht,hce,hct,Nat.mul_one] at h;split at h
  ·rename_i hl;obtain⟨xs,hm,hx⟩:=aFA.1 h;have hxs:xs.map (·.1)=zs.map fun z=>(DataW.lit (.string z):DataW H):=(by have:=congrArg Prod.fst hx;simpa using this);have hxl:xs.length=n:=(by simpa using Lib.mapM_length hm);have hzl:zs.length=n:=(by have:=congrArg List.length hxs;simp at this;omega);apply List.ext_getElem?;intro i
   by_cases hi:i<n
   ·obtain⟨b,hb,hf⟩:=Lib.mapM_at hm i i (by simp[hi]);obtain⟨z,hc,rfl,_⟩:=aHA he hf;have h1:cs[i]? =some (.string z):=(by have:=congrArg (·[0]?) hc;simpa [List.getElem?_take,List.getElem?_drop] using this);have h2:(xs.map (·.1))[i]? =some (DataW.lit (.string z.data.toList):DataW H):=(by simp[hb]);rw[hxs] at h2;simp only[aDO,aFA,DataW.lit.injEq,Lit.string.injEq] at h2;obtain⟨z',hz',h3⟩:=h2;rw[h1];simp only[mR,aDO,hz',Option.map_some,h3,ET]
   ·rw[aEX (by omega),aEX (by rw[XE];omega)]
  ·cases h
theorem Oe:(Rows.laid_amanuensis_lex_words:DataW Unit)=.agg (Lx.words.map fun z=>.lit (.string z)):=by kernel_rfl
theorem Od{l:List (String×DataW Unit)}(h:laidMet aBS l W)(h1:("amanuensis/lex.words",Rows.laid_amanuensis_lex_words)∈l):dJ W:=by
 obtain⟨g,t,cs,fuel,p,e1,e2,e3,e4⟩:=Lib.laidMet.reads h h1;obtain rfl:=aDB.inj (gW.symm.trans e1);have e5:(aBS.globals[3]?).map (·.type)=some 345:=by kernel_rfl
 obtain rfl:=aDB.inj (e5.symm.trans e2);rw[Oe] at e4;have hc:=PM (n:=12) underlying345 underlying9 (by kernel_rfl) (by kernel_rfl) e4;have hcell: ∀i,W.cell? ⟨3,i,none⟩=(mR Lx.words)[i]? :=fun i=>by rw[World.var?_cell gW e3 i,<-hc];simp
 refine⟨by kernel_rfl,fun _=>⟨_,0,rfl,?_,fun i u hu=>by rw[Nat.zero_add,hcell];exact hu⟩⟩;exact aDA (a:=⟨3,0,none⟩) W (hcell 0)
noncomputable def Re (os:Os):World:=
 let w0:=Z9 os
 {w0 with heap:=w0.heap.modify 3 fun
   | .cells _ t frozen=>.cells (mR Lx.words).toArray t frozen
   |o=>o}
abbrev SQ:List (String×DataW Unit):=[("math/bits.deBruijn32tab",Rows.laid_math_bits_deBruijn32tab),("math/bits.deBruijn64tab",Rows.laid_math_bits_deBruijn64tab),("internal/strconv.uint64pow10",Rows.laid_internal_strconv_uint64pow10),("unicode/utf8.acceptRanges",Rows.laid_unicode_utf8_acceptRanges),("errors.errorType",Rows.laid_errors_errorType),("strconv.ErrRange",Rows.laid_strconv_ErrRange),("strconv.ErrSyntax",Rows.laid_strconv_ErrSyntax),("amanuensis/lex.words",Rows.laid_amanuensis_lex_words),("unicode/utf8.first",Rows.laid_unicode_utf8_first)]
theorem Vv(h:laidMetH aBS SQ W):T8 W/\dJ W/\xY W:=by
 have h':laidMet aBS vJ W/\handlesMet aBS [("errors.errorType",Rows.laid_errors_errorType)] W:=h;exact⟨aBj h'.1 (by simp[vJ]) (by simp[vJ]),Od h'.1 (by simp[vJ]),jw h'.2⟩
noncomputable def vW (os:Os):World:=
 let w0:=Re os
 {w0 with heap:=w0.heap.modify 1 fun
   | .cells _ t frozen=>.cells #[.iface 289 (.agg #[.pointer (some ⟨11,26,none⟩)])] t frozen
   |o=>o}
theorem Bi(os:Os)(args:Array Value):laidMet aBS vJ ((vW os).forCall (fun _ _=>0) ⟨#[],args,[]⟩).memory:=by
 unfold vJ;rw[Vw,D5];exact(LaidIn.of_run (l:=[("math/bits.deBruijn32tab",Rows.laid_math_bits_deBruijn32tab),("math/bits.deBruijn64tab",Rows.laid_math_bits_deBruijn64tab),("internal/strconv.uint64pow10",Rows.laid_internal_strconv_uint64pow10),("unicode/utf8.acceptRanges",Lib.acceptData),("strconv.ErrRange",Rows.laid_strconv_ErrRange),("strconv.ErrSyntax",Rows.laid_strconv_ErrSyntax),("amanuensis/lex.words",Rows.laid_amanuensis_lex_words),("unicode/utf8.first",Lib.firstData)]) (aEN 40) 8 (by kernel_rfl) (by kernel_rfl) (by kernel_rfl) (by kernel_rfl)).met
theorem Mk(os:Os)(args:Array Value):laidMetH aBS SQ ((vW os).forCall (fun _ _=>0) ⟨#[],args,[]⟩).memory:=
 laidMetH_of_parts (show laidMet aBS vJ _ from Bi os args) (by kernel_rfl)
end LM
end Go.Proofs.YtcjjfeephaddcaaGreatDoor
