import Derived.Test.YtcjjfeephaddcaaGreatDoorJaz
import Derived.Test.YtcjjfeephaddcaaGreatDoorJaw
set_option linter.all false
open Go.Proofs.Tryz renaming prog->aBS
open Go.RowKit.Below renaming refl->aBU
open Go.Value renaming slice->aBX
open Go.World renaming ownsRow_nil->aCW
open List renaming length_append->aBW,getElem?_eq_getElem->aBY,length_drop->aCB,getElem?_eq_some_iff->aCD,length_map->aCE,mem_cons->aCJ,take_succ_eq_append_getElem->aCP,getElem_mem->aCR,length_take->aCY,mem_of_getElem?->aDC,drop_eq_getElem_cons->aDE,map_cons->aDH,getElem?_append_left->aDM,getElem?_map->aDO,mem_map->aDQ,getElem_of_mem->aDT,length_filter_le->aED,drop_length->aEG,any_eq_true->aEI,mem_filter->aEM,flatMap_cons->aEU,length_zipIdx->aFR,flatten_cons->aFW,mem_of_mem_drop->aFY,map_map->aGD,getElem_zipIdx->aGO,zipIdx_map->aGZ
open Nat renaming le_refl->aBT,zero_le->aBZ,lt_of_lt_of_le->aCF,lt_or_ge->aCN
set_option maxHeartbeats 64000000
set_option maxRecDepth 100000
open Go.Proofs.Tryz
namespace Go.Proofs.YtcjjfeephaddcaaGreatDoor
variable{w:World}{x:Sc.It}{c n:Nat}{A:Option Addr}{fs:List Fl}{m:Int}{l:List Sc.It}{us:List Sc.Us}
def VH:Nat->Value
 |0=>.nilIface
 |k=>.iface 29 (kZZ k)
open Go.RowKit
def Sc.iD:List Fl->List Fl->Nat
 |_,[]=>0
 |ahead,f::l=>if uJ f.1=false then 4 else if(ahead.any fun g=>g.1==f.1)=true then 5 else Sc.iD (ahead++[f]) l
def Sc.fO (fs:List Fl):Nat:=if 16<fs.length then 12 else if(fs.any fun f=>decide (20000<f.2.length))=true then 12 else Sc.iD [] fs
theorem Zi{x:Fl}{bx:Nat}{n:Bs}(hb:w.cell? ⟨bx,0,none⟩=some (.string ⟨n.toArray⟩)):
  Calls aBS 119 #[.agg #[.string ⟨x.1.toArray⟩,.string ⟨x.2.toArray⟩],pZZ bx] w (rX (x.1==n) w):=by
 obtain⟨hd,hn⟩:=uS w 66 #[.string ⟨x.1.toArray⟩,.string ⟨x.2.toArray⟩];have hb1:=Ya hd hb;obtain⟨r,hr⟩:=dC w.heap.size;rw[<-hr] at hn;clear hb
 go_enter func119,ntmps119
 go_upto_region 1 with fail;rw[<-hr];clear hr;generalize w.alloc _=w1 at *;have n0:=hn.cell 0;simp at n0;clear hn;go_wp2_with fail;go_ret;exact⟨rfl,hd⟩
def ChkE(n:Nat)(w:World)(e:Ending)(w':World):Prop:=e=.returned (VH n)/\Below w.heap.size w w'
theorem Py(hr:EI w A fs)(hM:lN w m)(hT:T8 w)(hW:dJ w)(hn: ∀f∈fs,f.1.length<=8388608)(hcap:fs.length<=c):
  Calls aBS 72 #[.slice A fs.length c] w (ChkE (Sc.fO fs) w):=by
 by_cases h16:16<fs.length
 ·have HR:aC (Sc.fO fs=12):=(by show _=_;unfold Sc.fO;rw[if_pos h16]);have j16:(16:Int)<(fs.length:Int):=(by omega);clear hr hn hcap h16;generalize Sc.fO fs=R at *
  go_enter func72,ntmps72
  go_wp2_with fail;go_ret;exact⟨by rw[HR.o];rfl,aBU _ _⟩
 have HR:aC (Sc.fO fs=if(fs.any fun f=>decide (20000<f.2.length))=true then 12 else Sc.iD [] fs):=by show _=_;unfold Sc.fO;rw[if_neg h16]
 generalize Sc.fO fs=R at *;have j16: ¬(16:Int)<(fs.length:Int):=by omega
 have TB:aC (fs.length<=16):=by show _<=_;omega
 have Hn:=aB hn;have qM:=aB hcap;clear h16 hn hcap
 go_enter func72,ntmps72
 go_wp2_with fail
 go_loopg [13] fs.length (fun mm v wr=> ∃i:Nat,v=vZZ i/\i<=fs.length/\fs.length-i<=mm/\aC (∀j (hj:j<fs.length),j<i->¬20000<fs[j].2.length)/\Below w.heap.size w wr)
 case atStart=>exact⟨0,rfl,aBZ _,aBT _,fun j _ h=>absurd h (by omega),aBU _ _⟩
 case round=>
  obtain⟨i,rfl,hi,hm,HB,hd⟩:=hrel
  by_cases hlt:i<fs.length
  ·have GZ:=iZ i;have EB:=jJ i fs.length;obtain⟨br,o,rfl,hbl,hc0,hc1⟩:=hr.at_ hlt;have q0:=(hd.cell (p:=⟨br,o+i*2,none⟩) hbl).trans hc0;have q1:=(hd.cell (p:=⟨br,o+i*2+1,none⟩) hbl).trans hc1;have c1:=uX i (by have:=TB.o;omega);have HE:aC (20000<fs[i].2.length->R=12):=fun h=>(by rw[HR.o,if_pos];exact aEI.2 ⟨fs[i],aCR hlt,by simpa using h⟩);have HN:aC (¬20000<fs[i].2.length->∀j (hj:j<fs.length),j<i+1->¬20000<fs[j].2.length):=fun h j hj hji=>by
    rcases aCN j i with h'|h'
    ·exact HB.o j hj h'
    ·obtain rfl:j=i:=(by omega);exact h
   have bZ:=aB hlt;have Hm:=aB hm;obtain⟨hd1,hb1⟩:=uS wr 66 #[.string ⟨fs[i].1.toArray⟩,.string ⟨fs[i].2.toArray⟩];have hd2:=hd.trans (hd1.mono hd.size);generalize fs[i]=x at *;clear hc0 hc1 hbl hlt hm hi HB hd1;go_upto_region 6 with fail;obtain⟨bx,hbx⟩:=dC wr.heap.size;rw[<-hbx] at hb1⊢;clear hbx q0 q1 hd;generalize wr.alloc _=w2 at *;have b1:=hb1.cell 1;simp at b1
   by_cases hx:20000<x.2.length
   ·have HR2:=aB (HE.o hx);have hx1:(20000:Int)<(x.2.length:Int):=(by omega);clear HE HN hx;go_wp2_with fail;go_ret;exact⟨by rw[HR2.o];rfl,hd2⟩
   ·have pz:=aB (HN.o hx);have hx1: ¬(20000:Int)<(x.2.length:Int):=(by omega);clear HE HN hx;go_wp2_with fail
    go_roundg (fs.length-(i+1))
    case rel=>exact⟨i+1,by go_num,by have:=bZ.o;omega,aBT _,pz,hd2⟩
    case measure=>have:=bZ.o;have:=Hm.o;omega
  ·obtain rfl:i=fs.length:=(by omega);have i1:=lC fs.length;have i2:=kZ fs.length;have HR2:aC (R=Sc.iD [] fs):=(by show _=_;rw[HR.o,if_neg];intro h;obtain⟨x,hx,e⟩:=aEI.1 h;obtain⟨j,hj,e2⟩:=aDT hx;exact HB.o j hj hj (by rw[e2];simpa using e));clear hlt hi hm HB HR;generalize wr=w1 at *;go_wp2_with fail
   go_loopg [25] fs.length (fun mm v wr=> ∃i:Nat,v=vZZ i/\i<=fs.length/\fs.length-i<=mm/\aC (Sc.iD [] fs=Sc.iD (fs.take i) (fs.drop i))/\Below w.heap.size w wr)
   case atStart=>exact⟨0,rfl,aBZ _,aBT _,rfl,hd⟩
   case round=>
    obtain⟨i,rfl,hi,hm,HB,hd2⟩:=hrel;clear hd
    by_cases hlt:i<fs.length
    ·have GZ:=iZ i;have EB:=jJ i fs.length;obtain⟨br,o,rfl,hbl,hc0,hc1⟩:=hr.at_ hlt;have q0:=(hd2.cell (p:=⟨br,o+i*2,none⟩) hbl).trans hc0;have q1:=(hd2.cell (p:=⟨br,o+i*2+1,none⟩) hbl).trans hc1;have c1:=uX i (by have:=TB.o;omega);have hE:Sc.iD (fs.take i) (fs.drop i)=if uJ fs[i].1=false then 4 else if((fs.take i).any fun g=>g.1==fs[i].1)=true then 5 else Sc.iD (fs.take (i+1)) (fs.drop (i+1)):=by rw[aDE hlt,aCP hlt];rfl
     have HE:aC (R=if uJ fs[i].1=false then 4 else if((fs.take i).any fun g=>g.1==fs[i].1)=true then 5 else Sc.iD (fs.take (i+1)) (fs.drop (i+1))):=(by show _=_;rw[HR2.o,HB.o];exact hE);have hfr:=(hr.below hd2).take i;have hwl:(fs.take i).length=i:=(by rw[aCY];omega);have Fu:=aB hwl;have hnl:=Hn.o fs[i] (aCR hlt);have bZ:=aB hlt;have Hm:=aB hm;obtain⟨hd3,hb1⟩:=uS wr 66 #[.string ⟨fs[i].1.toArray⟩,.string ⟨fs[i].2.toArray⟩];have hd4:=hd2.trans (hd3.mono hd2.size);have hfr4:=hfr.below hd3;have hcp:(i:Int)<=(c:Int):=(by have:=qM.o;omega);have hcp2:i<=c:=(by have:=qM.o;omega);generalize fs[i]=x at *;generalize fs.take i=ft at *;clear hc0 hc1 hbl hlt hm hi HB hd3 hE hfr hwl;go_upto_region 12 with fail;obtain⟨bx,hbx⟩:=dC wr.heap.size;rw[<-hbx] at hb1⊢;clear hbx q0 q1 hd2;generalize wr.alloc _=w2 at *;have b0:=hb1.cell 0;simp at b0;have hnm:=U9 x.1 m w2 (hM.below hd4 hM.lt) (hT.below hd4) (hW.below hd4) hnl;generalize uJ x.1=nb at *;clear hnl;go_wp2_with fail;refine hnm.mono ?_;clear hnm b0;rintro e5 w5 ⟨rfl,hd5⟩;have wO:=hd4.trans (hd5.mono hd4.size);cases nb with
     |false=>have HR3:aC (R=4):=(by show _=_;rw[HE.o,if_pos rfl]);clear HE;go_wp2_with fail;go_ret;exact⟨by rw[HR3.o];rfl,wO⟩
     |true=>
      have HE2:aC (R=if(ft.any fun g=>g.1==x.1)=true then 5 else Sc.iD (fs.take (i+1)) (fs.drop (i+1))):=(by show _=_;rw[HE.o,if_neg (by decide)]);have hb5:=hb1.below hd5 hb1.lt;have hany:=Zg (c:=c) (hfr4.below hd5) (by rw[Fu.o];have:=TB.o;have:=bZ.o;omega) (Fn:=119) (caps:=#[pZZ bx]) (P:=fun g=>g.1==x.1) (fun _ _=>by kernel_rfl)
       (fun y w' hd=>Zi (bx:=bx) (n:=x.1) ((hd.cell (p:=⟨bx,0,none⟩) hb5.lt).trans (by have:=hb5.cell 0;simpa using this)))
      rw[Fu.o] at hany;generalize(ft.any fun g=>g.1==x.1)=tw at *;clear HE hfr4 hd4 hb1 hd5 hb5;go_wp2_with fail;refine hany.mono ?_;clear hany;rintro e6 w6 ⟨rfl,hd6⟩;have VB:=wO.trans (hd6.mono wO.size);cases tw with
      |true=>have HR3:aC (R=5):=(by show _=_;rw[HE2.o,if_pos rfl]);clear HE2;go_wp2_with fail;go_ret;exact⟨by rw[HR3.o];rfl,VB⟩
      |false=>
       have HR3:aC (Sc.iD [] fs=Sc.iD (fs.take (i+1)) (fs.drop (i+1))):=(by show _=_;rw[<-HR2.o,HE2.o,if_neg (by decide)]);clear HE2;go_wp2_with fail
       go_roundg (fs.length-(i+1))
       case rel=>exact⟨i+1,by go_num,by have:=bZ.o;omega,aBT _,HR3,VB⟩
       case measure=>have:=bZ.o;have:=Hm.o;omega
    ·obtain rfl:i=fs.length:=(by omega);have i1:=lC fs.length;have i2:=kZ fs.length;have HR3:aC (R=0):=(by show _=_;rw[HR2.o,HB.o,aEG];rfl);clear hlt hi hm HB HR2;go_wp2_with fail;go_ret;exact⟨by rw[HR3.o];rfl,hd2⟩
theorem Sc.V7 {s:Bs}{T:List Tk}(hS:Tr.Side s T): ∀(f i:Nat),i<=T.length->∀k∈(Tr.bV s T f i).1,Tr.Nj k.part/\Tr.QX k.base k.part k.base/\k.base+Tr.jF k.part<=s.length
 |0,i,_,k,hk=>absurd hk (by unfold Tr.bV;simp)
 |f+1,i,hi,k,hk=>by
  rw[Tr.nO] at hk;split at hk
  ·rename_i hn;obtain⟨a1,a2,a3,a4⟩:=Tr.uI ((Tr.LQ hS).at_ hi);rcases aCJ.1 hk with rfl|hk
   ·refine⟨a2,Tr.Dy hS i hi hn,?_⟩;have h1:=Tr.EK (Tr.dU s T i).1;rw[a1,Tr.TM hS.good a3] at h1;have h2:=hS.good.Bj (Tr.dU s T i).2;have h3:=hS.good.up i _ a3;show Tr.dD s T i+Tr.jF (Tr.dU s T i).1<=s.length;omega
   ·exact Sc.V7 hS f (Tr.dU s T i).2 a4 k hk
  ·simp at hk
mutual
theorem Rb{b N:Nat}(hN:N<=1000000): ∀(p:Tr.PT) (a:Nat),Tr.QX b p a->a+Tr.jF p<=N->Tr.eP p<=1000000->fH b p
 | .leaf k t x,a,h,hw,_=>by unfold Tr.QX at h;unfold Tr.jF at hw;unfold fH;omega
 | .gap t x d,a,_,_,_=>by unfold fH;trivial
 | .branch k x l,a,h,hw,hc=>by unfold Tr.QX at h;unfold Tr.jF at hw;unfold Tr.eP at hc;unfold fH;have h1:=Tr.yT l;exact⟨by omega,Dq hN l a h.2.1 hw (by omega)⟩
theorem Dq{b N:Nat}(hN:N<=1000000): ∀(l:List Tr.PT) (a:Nat),Tr.AR b l a->a+Tr.jC l<=N->Tr.eB l<=1000000->CP b l
 | [],_,_,_,_=>by unfold CP;trivial
 |p::l,a,h,hw,hc=>by unfold Tr.AR at h;unfold Tr.jC at hw;unfold Tr.eB at hc;unfold CP;have h2:=h.2;rw[Tr.sQ] at h2;exact⟨Rb hN p a h.1 (by omega) (by omega),Dq hN l (a+Tr.jF p) h2 (by omega) (by omega)⟩
end
theorem Lx.Pm: ∀(n a:Nat) (s:Bs),s.length-a<=n->∀t∈Lx.dR a (s.drop a),Tr.jI s t≠ []
 |0,a,s,h=>by have e:s.drop a=[]:=List.drop_eq_nil_of_le (by omega);rw[e,Lx.jK];intro t ht;simp at ht
 |n+1,a,s,h=>by
  by_cases hne:s.drop a=[]
  ·rw[hne,Lx.jK];intro t ht;simp at ht
  ·have h1:=Lx.one_le _ hne;rw[Lx.lS a hne,List.drop_drop];rw[aCB] at h1;have ih:=Lx.Pm n (a+(Lx.gM (s.drop a)).2) s (by omega);intro t ht;rcases aCJ.1 ht with rfl|ht
   ·intro e;have h2:=congrArg List.length e;unfold Tr.jI at h2;dsimp only at h2;rw[aCY,aCB] at h2;simp at h2;omega
   ·exact ih t ht
def Sc.dN (s:Bs):List Tr.Kd:=(Tr.bV s (Lx.dR 0 s) ((Lx.dR 0 s).length+1) 0).1
theorem Sc.side {s:Bs}(hs:s.length<=20000):Tr.Side s (Lx.dR 0 s)/\(Lx.dR 0 s).length<=s.length/\∀t∈Lx.dR 0 s,Tr.jI s t≠ []:=by
 have Nl:=Lx.BU s.length 0 s (aBT _);obtain⟨hS, -⟩:=Lx.KE s (by omega) Nl;have h1:=Lx.Pm s.length 0 s (by omega);rw[List.drop_zero] at h1;exact⟨hS,Nl,h1⟩
theorem Sc.FH {s:Bs}(hs:s.length<=20000):Tr.eB ((Sc.dN s).map (·.part))<=600000:=by
 obtain⟨hS,hl,_⟩:=Sc.side hs;obtain⟨_,h2,h3⟩:=Tr.Dx s (Lx.dR 0 s) ((Lx.dR 0 s).length+1) 0 (aBZ _);unfold Sc.dN;omega
theorem Sc.yO {s:Bs}(hs:s.length<=20000):aAJ (Sc.dN s):=by
 obtain⟨hS,hl,hne⟩:=Sc.side hs;have hc:=Sc.FH hs;have h1:=Tr.yT ((Sc.dN s).map (·.part));rw[aCE] at h1;refine⟨by omega,fun k hk hi=> ?_⟩;have hq:=Sc.V7 hS _ 0 (aBZ _) k hk;have h2:=Tr.oF (l:=(Sc.dN s).map (·.part)) (aDQ.2 ⟨k,hk,rfl⟩);exact⟨Sc.LP hne _ 0 k hk hi,Rb (N:=s.length) (by omega) k.part k.base hq.2.1 hq.2.2 (by omega),by omega⟩
def Sc.uV (fs:List Fl):Sc.Wk:=Sc.Ck (fs.map fun f=>(f.1,Sc.dN f.2))
theorem Sc.JS (fs:List Fl):Sc.qB fs (fs.map fun f=>Sc.dN f.2)=Sc.uV fs:=by
 unfold Sc.qB Sc.uV Sc.Ck;rw[aGZ,aGZ,aGD,aGD,aGD];rfl
theorem NB{α β:Type}(f:α->List β)(N:Nat): ∀l:List α,(∀x∈l,(f x).length<=N)->((l.map f).flatten).length<=l.length*N
 | [],_=>by simp
 |x::l,h=>by
  have h1:=NB f N l fun y hy=>h y (List.mem_cons_of_mem _ hy)
  have h2:=h x (List.mem_cons_self ..);rw[aDH,aFW,aBW,List.length_cons,Nat.succ_mul];omega
def Sc.Nk:List Tr.PT->Nat
 | []=>0
 |p::l=>(if Sc.mY p then 0 else 1)+Sc.Nk l
def Sc.Xt (p:Tr.PT):Nat:=Sc.Nk (Sc.eZ p)
def Sc.vz:List Tr.PT->Nat
 | []=>0
 |p::l=>Sc.Xt p+Sc.vz l
theorem Sc.YM: ∀l:List Tr.PT,(l.filterMap Sc.oN).length<=Sc.Nk l
 | []=>aBT _
 |p::l=>by
  have ih:=Sc.YM l;rw[List.filterMap_cons];unfold Sc.Nk;cases p with
  |branch k a m=>simp only[Sc.oN,Sc.mY];simpa using ih
  |leaf k t a=>simp only[Sc.mY];split<;>simp<;>omega
  |gap t a d=>simp only[Sc.mY];split<;>simp<;>omega
theorem Sc.Qz: ∀{l:List Tr.PT} {q:Tr.PT},q∈l->Sc.Xt q<=Sc.vz l
 |p::l,q,h=>by
  unfold Sc.vz;rcases aCJ.1 h with rfl|h
  ·omega
  ·have:=Sc.Qz h;omega
theorem Sc.ry {l m:List Tr.PT}(h: ∀q∈m,q∈l)(i:Nat):Sc.Xt (Sc.mP m i)<=Sc.vz l:=by
 unfold Sc.mP;cases e:m[i]? with
 |none=>exact aBZ _
 |some q=>exact Sc.Qz (h q (aDC e))
theorem Sc.WZ (b:Nat)(p:Tr.PT):(Sc.bE b p).length<=Sc.Xt p:=by
 unfold Sc.bE Sc.UK Sc.Xt;rw[aCE];exact Sc.YM _
theorem Sc.yK (f:Nat): ∀(l ahead:List (Option Sc.Wd)),(Sc.aY f ahead l).length<=l.length
 | [],_=>by unfold Sc.aY;exact aBT _
 |none::l,ahead=>by unfold Sc.aY;exact Nat.le_succ_of_le (Sc.yK f l _)
 |some w::l,ahead=>by unfold Sc.aY;exact Nat.succ_le_succ (Sc.yK f l _)
theorem Sc.Oq (W:Sc.Wk)(x:Sc.It)(e:Sc.Env)(k a:Nat)(l:List Tr.PT):(Sc.visitM W x e (.branch k a l)).length<=1+Sc.vz l:=by
 unfold Sc.visitM;split
 ·rw[aCE];cases Sc.UO x.base (.branch k a l)<;>simp
 ·split
  ·have h1:=Sc.yK x.file (Sc.bE x.base (Sc.mP (Sc.dP (.branch k a l)) 1)) [];have h2:=Sc.WZ x.base (Sc.mP (Sc.dP (.branch k a l)) 1);have h3:=Sc.ry (l:=l) (m:=Sc.dP (.branch k a l)) (fun q hq=>(aEM.1 hq).1) 1;omega
  ·split<;>simp
mutual
theorem Sc.XB (W:Sc.Wk)(x:Sc.It): ∀(p:Tr.PT) (e:Sc.Env),(Sc.dG W x e p).length+Sc.Xt p<=Tr.eP p
 | .leaf _ _ _,_=>by simp[Sc.dG,Sc.Xt,Sc.eZ,Sc.Nk]
 | .gap _ _ _,_=>by simp[Sc.dG,Sc.Xt,Sc.eZ,Sc.Nk]
 | .branch k a l,e=>by have h1:=Sc.Oq W x e k a l;have h2:=Sc.xZ W x l (Sc.zF x e (.branch k a l)) (Sc.uQ x e (.branch k a l));rw[Sc.dG,aBW,Tr.eP];show _+Sc.Nk l<=_;omega
theorem Sc.xZ (W:Sc.Wk)(x:Sc.It): ∀(l:List Tr.PT) (e1 e2:Sc.Env),(Sc.bX W x e1 e2 l).length+Sc.vz l+Sc.Nk l<=Tr.eB l
 | [],_,_=>by simp[Sc.bX,Sc.vz,Sc.Nk,Tr.eB]
 |p::l,e1,e2=>by
  have h1:=Sc.XB W x p e1;have h2:=Sc.xZ W x l e1 e2;have h3:=Sc.xZ W x l e2 e2;rw[Sc.bX,Sc.vz,Sc.Nk,Tr.eB];cases p with
  |branch k a m=>
   simp only[Sc.mY,if_true] at *;split
   ·rw[aBW];omega
   ·omega
  |leaf k t a=>
   simp only[Sc.mY,Sc.dG,Sc.Xt,Sc.eZ,Sc.Nk,Tr.eP] at *;split
   ·simp;omega
   ·simp;omega
  |gap t a d=>
   simp only[Sc.mY,Sc.dG,Sc.Xt,Sc.eZ,Sc.Nk,Tr.eP] at *;split
   ·simp;omega
   ·simp;omega
end
theorem Sc.Dz (p:Tr.PT):Tr.eB (Sc.eZ p)<=Tr.eP p:=by
 cases p with
 |branch k a l=>rw[Tr.eP];show Tr.eB l<=_;omega
 |leaf k t a=>exact aBZ _
 |gap t a d=>exact aBZ _
theorem Sc.Fb (p:Tr.PT): ∀q∈Sc.bN p,q∈Sc.eZ p:=fun q h=>by
 unfold Sc.bN at h;split at h
 ·exact(aEM.1 (aFY h)).1
 ·exact(aEM.1 h).1
theorem Sc.Ru (W:Sc.Wk)(f k n:Nat)(kd:Tr.Kd):(Sc.fT W f k (Sc.dZ n kd)).length<=5*Tr.eP kd.part:=by
 have hp:=Tr.DU kd.part;unfold Sc.fT;split
 ·unfold Sc.PK;have h1:=Sc.yK (Sc.dZ n kd).file (Sc.dZ n kd).params [];have h2:(Sc.dZ n kd).params.length<=Tr.eP kd.part:=by
   unfold Sc.dZ;dsimp only;split
   ·have h3:=Sc.WZ kd.base (Sc.mP (Sc.bN kd.part) 2);have h4:=Sc.ry (l:=Sc.eZ kd.part) (Sc.Fb kd.part) 2;have h5:=Sc.xZ W (Sc.dZ n kd) (Sc.eZ kd.part) [] [];have h6:=Sc.Dz kd.part;omega
   ·exact aBZ _
  have h7:Tr.eP (Sc.dZ n kd).expr<=Tr.eP kd.part:=by
   have hat: ∀i,Tr.eP (Sc.mP (Sc.bN kd.part) i)<=Tr.eP kd.part:=fun i=>by
    unfold Sc.mP;cases e:(Sc.bN kd.part)[i]? with
    |none=>exact hp
    |some q=>have h3:=Tr.oF (Sc.Fb kd.part q (aDC e));have h4:=Sc.Dz kd.part;show Tr.eP q<=_;omega
   unfold Sc.dZ;dsimp only;split
   ·split
    ·exact hat 4
    ·exact hat 3
   ·exact hp
  have h8:=Sc.XB W (Sc.dZ n kd) (Sc.dZ n kd).expr (Sc.dS (Sc.dZ n kd).params []);have h9:((Sc.dZ n kd).name.toList.map fun w=>Sc.dM (Sc.dZ n kd).file w.at_ 0 (Sc.dW (Sc.aT W f) k)).length<=1:=(by rw[aCE];cases(Sc.dZ n kd).name<;>simp);rw[aBW,aBW];omega
 ·unfold Sc.EM;simp only[aBW,aCE];have h1: ∀o:Option Sc.Wd,o.toList.length<=1:=fun o=>(by cases o<;>simp);have h2:=h1 (Sc.dZ n kd).mo;have h3:=h1 (Sc.dZ n kd).me;have h4:=h1 (Sc.dZ n kd).al;omega
theorem Sc.FT (W:Sc.Wk)(f n:Nat): ∀(ks:List Tr.Kd) (m:Nat),(((((ks.filter Sc.gU).map (Sc.dZ n)).zipIdx m).map fun y=>Sc.fT W f y.2 y.1).flatten).length<=5*Tr.eB (ks.map (·.part))
 | [],_=>by simp
 |kd::ks,m=>by
  have h0:=Sc.FT W f n ks m;have h1:=Sc.FT W f n ks (m+1);have h2:=Sc.Ru W f m n kd;rw[List.filter_cons,aDH,Tr.eB];split
  ·rw[aDH,List.zipIdx_cons,aDH,aFW,aBW];dsimp only at *;omega
  ·omega
theorem Sc.Kr (W:Sc.Wk)(g:Nat){s:Bs}(hs:s.length<=20000):(Sc.nA W g (Sc.bM g (Sc.dN s))).length<=3000000:=by
 have h1:=Sc.FT W g g (Sc.dN s) 0;have h3:=Sc.FH hs;unfold Sc.nA Sc.bM;omega
theorem Sc.EL (fs:List Fl)(hl:fs.length<=16)(hs: ∀f∈fs,f.2.length<=20000):(Sc.qC (Sc.uV fs)).length<=48000000:=by
 have h1:Sc.qC (Sc.uV fs)=((fs.zipIdx.map fun y=>Sc.nA (Sc.uV fs) y.2 (Sc.bM y.2 (Sc.dN y.1.2)))).flatten:=by have e:(Sc.uV fs).items.zipIdx.map (fun y=>Sc.nA (Sc.uV fs) y.2 y.1)=fs.zipIdx.map fun y=>Sc.nA (Sc.uV fs) y.2 (Sc.bM y.2 (Sc.dN y.1.2)):=(by unfold Sc.uV Sc.Ck;dsimp only;apply List.ext_getElem?;intro i;simp only[aDO,List.getElem?_zipIdx];cases fs[i]? <;>simp);unfold Sc.qC;rw[e]
 rw[h1];have h2:=NB (fun y:Fl×Nat=>Sc.nA (Sc.uV fs) y.2 (Sc.bM y.2 (Sc.dN y.1.2))) 3000000 fs.zipIdx fun y hy=>Sc.Kr _ _ (hs y.1 (by obtain⟨k,hk,e⟩:=aDT hy;rw[aGO] at e;rw[<-e];exact aCR _))
 rw[aFR] at h2;omega
theorem Sc.YN (fs:List Fl)(hl:fs.length<=16)(hs: ∀f∈fs,f.2.length<=20000):Sc.lL (Sc.uV fs)<=9600000:=by
 have h1:Sc.lL (Sc.uV fs)=(((fs.zipIdx.map fun y=>Sc.bM y.2 (Sc.dN y.1.2)))).flatten.length:=by have e:(Sc.uV fs).items=fs.zipIdx.map fun y=>Sc.bM y.2 (Sc.dN y.1.2):=(by unfold Sc.uV Sc.Ck;dsimp only;rw[aGZ,aGD];rfl);unfold Sc.lL;rw[e,List.length_flatten]
 rw[h1];have h2:=NB (fun y:Fl×Nat=>Sc.bM y.2 (Sc.dN y.1.2)) 600000 fs.zipIdx fun y hy=>by have hy2:y.1.2.length<=20000:=hs y.1 (by obtain⟨k,hk,e⟩:=aDT hy;rw[aGO] at e;rw[<-e];exact aCR _);have h3:=Sc.FH hy2;have h4:=Tr.yT ((Sc.dN y.1.2).map (·.part));rw[aCE] at h4;unfold Sc.bM;rw[aCE];have h5:=aED Sc.gU (Sc.dN y.1.2);omega
 rw[aFR] at h2;omega
open Go.RowKit Go.Maps
theorem Sc.BH (h:Sc.fO fs=0):fs.length<=16/\∀f∈fs,f.2.length<=20000:=by
 unfold Sc.fO at h
 by_cases h1:16<fs.length
 ·rw[if_pos h1] at h;cases h
 rw[if_neg h1] at h
 by_cases h2:(fs.any fun f=>decide (20000<f.2.length))=true
 ·rw[if_pos h2] at h;cases h
 refine⟨by omega,fun f hf=> ?_⟩;have h3: ¬20000<f.2.length:=fun h4=>h2 (aEI.2 ⟨f,hf,by simpa using h4⟩)
 omega
def GA(w:World)(F:Nat->Prop)(gt:Nat)(T:List Tk)(ks:List Tr.Kd)(ts:List Tr.PT):Prop:=F gt/\∃d A c,vX w F gt d A c T ks ts/\fP w F A (fJ T)/\T.length<=c
theorem GA.keep {w':World}{F F':Nat->Prop}{gt:Nat}{T:List Tk}{ks:List Tr.Kd}{ts:List Tr.PT}(h:GA w F gt T ks ts)(hs:w.heap.size<=w'.heap.size)(hk: ∀b,F b->b<w.heap.size->w'.heap[b]? =w.heap[b]? /\F' b):GA w' F' gt T ks ts:=by
 obtain⟨hg,d,A,c,hT,hr,hc⟩:=h;obtain⟨Av,cv,At,ct,vs,us,hB,h1,h2,h3,h4,h5,h6⟩:=hT.ex;have hg2:=hk gt hg hB.lt;exact⟨hg2.2,d,A,c,⟨⟨Av,cv,At,ct,vs,us,hg2.1.trans hB,h1,h2,h3.keep hs hk,nE.keep hs hk _ _ h4,h5.keep hs hk,eF.keep hs hk _ _ h6⟩⟩,hr.keep hs hk,hc⟩
def Sc.qw (s:Bs):List Tr.PT:=Tr.sP s (Lx.dR 0 s) (Tr.bV s (Lx.dR 0 s) ((Lx.dR 0 s).length+1) 0).2
def Wl(w:World)(P:Nat->Prop)(fs:List Fl)(gts:List Nat):Prop:= ∀(j gt:Nat) (f:Fl),gts[j]? =some gt->fs[j]? =some f->GA w P gt (Lx.dR 0 f.2) (Sc.dN f.2) (Sc.qw f.2)
structure aAF(w:World)(B:Nat)(P:Nat->Prop)(fs:List Fl)(gts:List Nat)(Ar:Option Addr)(cr:Nat):Prop where
 row:w.ownsRow B 51 1 (.slice Ar gts.length cr) gts.length (gts.map bO)
 trs:Wl w P fs gts
 lt: ∀b,P b->b<w.heap.size
 nr: ∀q,(aBX Ar gts.length cr).ownBlock=some q->¬P q
theorem Vg:(aBS.info? 51).map (fun i=>(i.zero,i.size,i.bytes))=some (some (oZZ),1,8):=by kernel_rfl
def aBG(n:Nat)(w:World)(fs:List Fl)(A:Option Addr)(c:Nat)(e:Ending)(w':World):Prop:=Below w.heap.size w w'/\
 (n≠0->e=.returned (.tuple #[oZZ,VH n]))/\
 (n=0->∃pg w1 P At gts ct,e=.returned (.tuple #[bO pg,.nilIface])/\Wp w1 w' P A c (.slice At gts.length ct) fs (fs.map fun f=>Sc.dN f.2) pg/\Below w.heap.size w w1/\gts.length=fs.length/\gts.length<=ct/\fP w1 (fun b=>w.heap.size<=b) At (gts.map bO)/\Wl w1 P fs gts)
theorem zx(hr:EI w A fs)(hM:lN w m)(hT:T8 w)(hW:dJ w)(hn: ∀f∈fs,f.1.length<=8388608)(hcap:fs.length<=c):
  Calls aBS 32 #[.slice A fs.length c] w (aBG (Sc.fO fs) w fs A c):=by
 have hch:=Py hr hM hT hW hn hcap;have Hz:=aB (@Sc.BH fs);have HM:=aB hM;have HT:=aB hT;have HW:=aB hW;have Hr:=aB hr;clear hn hcap hM hT hW hr;generalize Sc.fO fs=R at *
 go_enter func32,ntmps32
 go_wp2_with fail;refine hch.mono ?_;clear hch;rintro e1 w1 ⟨rfl,hd1⟩;cases R with
 |succ R=>clear Hz;unfold VH;go_wp2_with fail;go_ret2;exact⟨hd1,fun _=>rfl,fun h=>absurd h (by omega)⟩
 |zero=>
  unfold VH;obtain⟨h16,htx⟩:=Hz.o rfl;have TB:=aB h16;have mq:=aB htx;have hR0:aAF w1 w.heap.size (fun _=>False) fs [] none 0:=⟨aCW _ _ _ _,fun j gt f h=>by simp at h,fun b h=>h.elim,fun q _ h=>h⟩;clear Hz h16 htx;obtain⟨i0,ji,iW,jz1,iV⟩:=info_parts Vg;go_wp2_with fail
  go_loopg [5,15] fs.length (fun mm v u wr=> ∃(i:Nat) (gts:List Nat) (Ar:Option Addr) (cr:Nat) (P:Nat->Prop),v=.slice Ar gts.length cr/\u=vZZ i/\i<=fs.length/\fs.length-i<=mm/\aAF wr w.heap.size P fs gts Ar cr/\Below w.heap.size w wr/\gts.length=i)
  case atStart=>exact⟨0,[],none,0,_,rfl,rfl,aBZ _,aBT _,hR0,hd1,rfl⟩
  case round=>
   obtain⟨i,gts,Ar,cr,P,rfl,rfl,hi,hm,hR,hd,hgl⟩:=hrel;have Yi:=aB hgl;clear hR0 hgl
   by_cases hlt:i<fs.length
   ·have GZ:=iZ i;have EB:=jJ i fs.length;obtain⟨br,o,rfl,hbl,hc0,hc1⟩:=Hr.o.at_ hlt;have q0:=(hd.cell (p:=⟨br,o+i*2,none⟩) hbl).trans hc0;have q1:=(hd.cell (p:=⟨br,o+i*2+1,none⟩) hbl).trans hc1;have c1:=uX i (by have:=TB.o;omega);have hxl:=mq.o fs[i] (aCR hlt);have Hx:aC (fs[i]? =some fs[i]):=aBY hlt;have bZ:=aB hlt;have Hm:=aB hm;obtain⟨hd3,hb1⟩:=uS wr 66 #[.string ⟨fs[i].1.toArray⟩,.string ⟨fs[i].2.toArray⟩];generalize fs[i]=x at *;clear hc0 hc1 hbl hlt hm hi;go_upto_region 8 with fail;obtain⟨bx,hbx⟩:=dC wr.heap.size;rw[<-hbx] at hb1⊢;clear hbx q0 q1;generalize wr.alloc _=w2 at *;have hd2:=hd.trans (hd3.mono hd.size);have b1:=hb1.cell 1;simp at b1;have htn:=Gs x.2 m w2 (HM.o.below hd2 HM.o.lt) (HT.o.below hd2) (HW.o.below hd2) (by omega);have xz:=aB hxl;clear hxl;go_wp2_with fail;refine htn.mono ?_;clear htn b1;rintro e3 w3 ⟨gt,rfl,hto,hd4⟩;have lV:=hd2.trans (hd4.mono hd2.size);have tq:w.heap.size<=w3.heap.size:=lV.size;have hd5:=hd3.trans (hd4.mono hd3.size);have hrow3:w3.ownsRow w.heap.size 51 1 (.slice Ar gts.length cr) gts.length (gts.map bO):=aM hR.row fun b hb=>hd5.block b (hR.row.lt b hb).2
    have htk:GA w3 (fun b=>P b\/(w2.heap.size<=b/\b<w3.heap.size)) gt (Lx.dR 0 x.2) (Sc.dN x.2) (Sc.qw x.2):=(by obtain⟨dd,Ad,cd,hI,_,_,hro,hco,_⟩:=hto.ex;exact GA.keep (w:=w3) (F:=fun b=>w2.heap.size<=b) ⟨hto.at_,dd,Ad,cd,hI,hro,hco⟩ (aBT _) fun b hb hl=>⟨rfl,.inr ⟨hb,hl⟩⟩);have Hold:aC (Wl w3 (fun b=>P b\/(w2.heap.size<=b/\b<w3.heap.size)) fs gts):=fun j g f h1 h2=>(hR.trs j g f h1 h2).keep hd5.size fun b hb hl=>⟨hd5.block b hl,.inl hb⟩
    have Htk:=aB htk;have Hlt3:aC (∀b,(P b\/(w2.heap.size<=b/\b<w3.heap.size))->b<w3.heap.size):=fun b hb=>by
     rcases hb with hb|hb
     ·exact aCF (hR.lt b hb) hd5.size
     ·exact hb.2
    have Hnr3:aC (∀q,(aBX Ar gts.length cr).ownBlock=some q->¬(P q\/(w2.heap.size<=q/\q<w3.heap.size))):=fun q hq hb=>by
     rcases hb with hb|hb
     ·exact hR.nr q hq hb
     ·have:=(hR.row.lt q hq).2;have:=hd3.size;omega
    have hgl1:aC (gts.length<=1000):=(by show _<=_;have:=Yi.o;have:=bZ.o;have:=TB.o;omega);have Hz4:=aB tq;have yh:=aB hrow3;have Ed:=World.size_alloc w3 (.cells #[pZZ gt] 51);have Y7:=aV.new w3 51 #[pZZ gt];clear hto hd4 hd2 hd hR hb1 hd3 hd5 htk tq;go_wp2_with (at_builtin;refine wpList_append_lies _ rfl _ _ 81 rfl w.heap.size 51 i0 _ 1 8 underlying81 ji iW jz1 iV rfl (by omega) _ gts.length _ rfl (yh.o.alloc _) ⟨w3.heap.size,0,none⟩ 1 1 [pZZ gt] rfl rfl (World.news_of_block (cs:=#[pZZ gt]) (t:=51) (fr:=(0,0)) Y7) (by simp[Value.oneCell']) (by omega) (by have:=hgl1.out;unfold maxLen;omega) (by have:=hgl1.out;omega) (by have:=Hz4.o;simp;omega) _ rfl ?_;intro g' cap' w6 hown6 hg6 hat6 hlt6);have X5:w3.heap.size<=w6.heap.size:=(by have:=hg6.size;omega);have hrw6: ∀b,b<w3.heap.size->(aBX Ar gts.length cr).ownBlock≠some b->w6.heap[b]? =w3.heap[b]? :=fun b hb hne=>(hg6.block b (by omega) fun e=>hne e.symm).trans (Below.heap_alloc w3 _ b hb)
    have hR6:aAF w6 w.heap.size (fun b=>P b\/(w2.heap.size<=b/\b<w3.heap.size)) fs (gts++[gt]) (some ⟨g',0,none⟩) cap':=by
     refine⟨by rw[aBW,List.map_append];exact hown6,fun j g f h1 h2=> ?_,fun b hb=>aCF (Hlt3.o b hb) X5,fun q hq hb=> ?_⟩
     ·have hkeep: ∀b,(P b\/(w2.heap.size<=b/\b<w3.heap.size))->b<w3.heap.size->w6.heap[b]? =w3.heap[b]? /\(P b\/(w2.heap.size<=b/\b<w3.heap.size)):=fun b hb hl=>⟨hrw6 b hl fun e=>Hnr3.o b e hb,hb⟩
      rcases aCN j gts.length with hj|hj
      ·rw[aDM hj] at h1;exact(Hold.o j g f h1 h2).keep X5 hkeep
      ·have hj':=(aCD.1 h1).1;simp at hj';obtain rfl:j=gts.length:=(by omega);simp at h1;subst h1;rw[Yi.o,Hx.o] at h2;injection h2 with h2;subst h2;exact Htk.o.keep X5 hkeep
     ·have e:q=g':=(by simp only[Value.ownBlock,Option.some.injEq] at hq;exact hq.symm);subst e;rcases hat6 with h|h
      ·exact Hnr3.o q h hb
      ·have:=Hlt3.o q hb;omega
    have hd6:Below w.heap.size w w6:=lV.trans (((aBU _ _).alloc (by have:=Hz4.o;exact this) _).grown hg6 (by have:=Hz4.o;omega) fun q hq=>(yh.o.lt q hq).1)
    go_roundg (fs.length-(i+1))
    case rel=>exact⟨i+1,gts++[gt],_,_,_,by rw[aBW];rfl,by go_num,by have:=bZ.o;omega,aBT _,hR6,hd6,by rw[aBW,Yi.o];rfl⟩
    case measure=>have:=bZ.o;have:=Hm.o;omega
   ·obtain rfl:i=fs.length:=(by omega);have i1:=lC fs.length;have i2:=kZ fs.length;have hkk:(fs.map fun f=>Sc.dN f.2).length=fs.length:=aCE ..;obtain⟨hcp,hrw,_⟩:=bY hR.row (fun b=>w.heap.size<=b) fun _ h=>h
    have hof:=aBl (KK:=fs.map fun f=>Sc.dN f.2) (c:=c) (ct:=cr) (gts:=gts) (At:=Ar) (P:=P) (Hr.o.below hd) hkk.symm (by have:=TB.o;omega) (hrw.keep (aBT _) fun b _ _=>⟨rfl,trivial⟩) (by rw[Yi.o,hkk])
     (fun j gt ks h1 h2=>by rw[aDO,Option.map_eq_some_iff] at h2;obtain⟨f,h2,rfl⟩:=h2;obtain⟨_,d,A',c',hI,_⟩:=hR.trs j gt f h1 h2;exact⟨d,A',c',_,_,hI⟩) hR.lt
     (fun ks hks=>by obtain⟨f,hf,rfl⟩:=aDQ.1 hks;exact Sc.yO (mq.o f hf))
     (by rw[Sc.JS];have:=Sc.EL fs TB.o mq.o;omega) (by rw[Sc.JS];have:=Sc.YN fs TB.o mq.o;omega)
    have Hcp:=aB hcp;have yf:=aB hrw;have Htrs:=aB hR.trs;clear hlt hi hm hR hkk hcp hrw;go_wp2_with fail;refine hof.mono ?_;clear hof;rintro e7 w7 ⟨pg,rfl,Sl⟩;unfold bO;go_wp2_with fail;go_ret2;have hb:=Sl;obtain⟨_,_,_,_,_,_,_,_,_,hb7,_⟩:=hb;exact⟨hd.trans (hb7.mono hd.size),fun h=>absurd rfl h,fun _=>⟨pg,_,P,Ar,gts,cr,rfl,Sl,hd,Yi.o,Hcp.o,yf.o,Htrs.o⟩⟩
theorem M7(A:Option Addr)(n c:Nat)(w:World)(h:n<=c)(hn:A=none->c=0):
  Calls aBS 33 #[.slice A n c] w fun e w'=>e=.returned (.slice A n n)/\w=w':=by
 cases A with
 |none=>
  have:=hn rfl;subst this;obtain rfl:n=0:=by omega
  go_enter func33,ntmps33
  go_wp2
  go_ret;exact⟨rfl,rfl⟩
 |some a=>
  go_enter func33,ntmps33
  go_wp2
  go_ret;exact⟨rfl,rfl⟩
def Fh(w:World)(A:Option Addr)(us:List Sc.Us):Prop:=Rd w w.heap.size 6 A us.length (us.flatMap fun u=>(iT u).toList)
theorem Fh.below {w':World}(h:Fh w A us)(hd:Below w.heap.size w w'):Fh w' A us:=(Rd.below h hd).more hd.size
theorem Ov: ∀(us:List Sc.Us) (i j:Nat) (hi:i<us.length),j<6->(us.flatMap fun u=>(iT u).toList)[i*6+j]? =(iT us[i]).toList[j]?
 |u::us,0,j,_,hj=>by rw[aEU,aDM (by simp[iT];omega)];simp
 |u::us,i+1,j,hi,hj=>by
  rw[aEU,List.getElem?_append_right (by simp[iT];omega)];have h:=Ov us i j (by simpa using hi) hj;have e:(i+1)*6+j-(iT u).toList.length=i*6+j:=by simp[iT];omega
  rw[e,h];rfl
theorem Fh.at_ (h:Fh w A us){i:Nat}(hi:i<us.length): ∃br o,A=some ⟨br,o,none⟩/\br<w.heap.size/\∀j v,(iT us[i]).toList[j]? =some v->w.cell? ⟨br,o+i*6+j,none⟩=some v:=by
 obtain⟨br,o,e,hl,hc⟩:=h.2 (by omega);refine⟨br,o,e,hl,fun j v hj=> ?_⟩;have hj6:j<6:=by have:=(aCD.1 hj).1;simpa [iT] using this
 rw[Nat.add_assoc];exact hc _ _ ((Ov us i j hi hj6).trans hj)
def RslE(n:Nat)(us:List Sc.Us)(w:World)(e:Ending)(w':World):Prop:=Below w.heap.size w w'/\
 (n≠0->e=.returned (.tuple #[nZZ,VH n]))/\
 (n=0->∃A,e=.returned (.tuple #[.slice A us.length us.length,.nilIface])/\Fh w' A us)
theorem O8(hr:EI w A fs)(hM:lN w m)(hT:T8 w)(hW:dJ w)(hn: ∀f∈fs,f.1.length<=8388608)(hcap:fs.length<=c):
  Calls aBS 11 #[.slice A fs.length c] w (RslE (Sc.fO fs) (Sc.qC (Sc.uV fs)) w):=by
 have hnew:=zx hr hM hT hW hn hcap;have HU:=aB (Sc.JS fs);clear hr hM hT hW hn hcap
 go_enter func11,ntmps11
 go_wp2_with fail;refine hnew.mono ?_;clear hnew;rintro e1 w1 ⟨hd1,h1,h0⟩;generalize Sc.fO fs=R at *;cases R with
 |succ R=>obtain rfl:=h1 (by omega);clear h1 h0;unfold VH;go_wp2_with fail;go_ret2;exact⟨hd1,fun _=>rfl,fun h=>absurd h (by omega)⟩
 |zero=>obtain⟨pg,w2,P,At,gts,ct,rfl,Sl,_⟩:=h0 rfl;obtain⟨w0,mb,GG,Ai,ci,Ad,cd,ss,_,_,_,_,hP,_⟩:=Sl;rw[HU.o] at hP;obtain⟨Au,cu,hB,hown⟩:=hP.blk;obtain⟨Av',cv',ev,hle,hnone⟩:=gQ hown;injection ev with e1 _ e3;subst e1 e3;have hcl:=M7 Au _ cu w1 hle hnone;have x3:=hB.cell 3;simp at x3;have hR:Fh w1 Au (Sc.qC (Sc.uV fs)):=Rd.rO hown;clear h1 h0 hP hB hown hle hnone;generalize Sc.qC (Sc.uV fs)=us at *;unfold bO;go_wp2_with fail;refine hcl.mono ?_;clear hcl x3;rintro e3 w3 ⟨rfl,rfl⟩;go_wp2_with fail;go_ret2;exact⟨hd1,fun h=>absurd rfl h,fun _=>⟨Au,rfl,hR⟩⟩
section
variable{w w':World}{wb:Nat}{P:Nat->Prop}{A:Option Addr}{c:Nat}{fs:List Fl}{i j:Nat}{its:List (List Sc.It)}{Ar:Option Addr}{cr:Nat}{Ai:Option Addr}{ci:Nat}
theorem DX.aBm (hN:DX w wb P A c fs i j its Ar cr Ai ci){Al:Option Addr}{cl:Nat}(hl:SX w (wb+1) P l Al cl){cs:Array Value}(hx:K7 w P x cs){css:List (Array Value)}(hc:css.length=l.length)(hall: ∀(k:Nat) (x:Sc.It) (cs:Array Value),l[k]? =some x->css[k]? =some cs->K7 w P x cs)
  (ho0:w.ownsRow (wb+1) 95 11 (.slice Al l.length cl) l.length (css.flatMap (·.toList)))
  {g cap:Nat} (ho:w'.ownsRow (wb+1) 95 11 (.slice (some ⟨g,0,none⟩) (l.length+1) cap) (l.length+1) (css.flatMap (·.toList)++cs.toList)) (hg:w.grownBy w' (aBX Al l.length cl).ownBlock) (hs:w.heap.size<=w'.heap.size) (hli:(aBX Al l.length cl).ownBlock=some g\/w.heap.size<=g):
  DX w' wb P A c fs i j its Ar cr Ai ci/\SX w' (wb+1) P (l++[x]) (some ⟨g,0,none⟩) cap:=by
 obtain⟨Ih,hr⟩:=hN.Q4;obtain⟨ss,h1,h2,h3⟩:=hN.si;exact⟨hN.other hg hs (fun e=>own_ne ho0 hN.blk (by decide) e.symm) hl.nr (Cu ho0 hr (by decide)) (Cu ho0 h2 (by decide)),hl.push (fun b hb=>(hN.lt b hb).2) hx hc hall ho hg hs hli⟩
theorem DX.addX {w6:World}(hN:DX w wb P A c fs i j its Ar cr Ai ci){Al:Option Addr}{cl:Nat}(hl:SX w (wb+1) P l Al cl)(hd:Below w.heap.size w w'){cs:Array Value}(hx:K7 w' (fun z=>P z\/w.heap.size<=z) x cs)(hd6:Below w'.heap.size w' w6):
  DX w6 wb (mf P w w6) A c fs i j its Ar cr Ai ci/\SX w6 (wb+1) (mf P w w6) l Al cl/\K7 w6 (mf P w w6) x cs/\Below w.heap.size w w6:=by
 have hd':=hd.trans (hd6.mono hd.size);exact⟨hN.below hd',hl.grow hd',hx.keep hd6.size fun y hy hlt=>⟨hd6.block y hlt,hy.elim .inl fun h=>.inr ⟨h,aCF hlt hd6.size⟩⟩,hd'⟩
theorem Sc.Ui {k:Tr.Kd}(hx:Sc.ItX k.part)(h4:Sc.kindOf k.part=4):(Sc.dZ n k).expr∈Sc.bN k.part:=by
 rcases hx.ways with ⟨h3,_⟩|⟨_,hD⟩
 ·rw[h3] at h4;cases h4
 obtain⟨part,b,fi,la⟩:=k;dsimp only at *;cases part with
 |leaf _ _ _=>cases h4
 |gap _ _ _=>cases h4
 |branch kd at_ l0=>
 obtain rfl:kd=4:=h4;obtain⟨x0,x1,r,hB,_,hr⟩:=hD.ex;rcases hr with ⟨x3,e,x5,rfl,h1,hs,he⟩|⟨p,x3,e,x5,rfl,h1,h2,hs,he⟩
 ·have hp:Sc.oO x3=false:=(by unfold Sc.oO;rw[h1];rfl);rw[eQ hB,hp];show e∈_;rw[hB];simp
 ·have hp:Sc.oO p=true:=(by unfold Sc.oO;rw[h1,h2];rfl);rw[eQ hB,hp];show e∈_;rw[hB];simp
theorem Sc.Vb {p q:Tr.PT}(h:q∈Sc.bN p):q∈Sc.eZ p:=by
 unfold Sc.bN at h;split at h
 ·exact Sc.gN (aFY h)
 ·exact Sc.gN h
theorem Sc.jq {p:Tr.PT}(h:Sc.bA p=true):Sc.kindOf p≠6:=by
 cases p with
 |leaf k t a=>cases h
 |gap t a d=>simp[Sc.kindOf]
 |branch k a l=>intro e;obtain rfl:k=6:=e;simp[Sc.bA] at h
theorem Sc.ay {s:Bs}(hs:s.length<=20000){kd:Tr.Kd}(hk:kd∈Sc.dN s)(hi:Sc.gU kd=true)(hd:(Sc.dZ n kd).bH=true):zI (Sc.dZ n kd).expr/\(Sc.dZ n kd).params.length<=1000000:=by
 obtain⟨h5,h6,h7⟩:=(Sc.yO hs).kids kd hk hi;have h4:Sc.kindOf kd.part=4:=by have h8:(Sc.kindOf kd.part==4)=true:=hd;simpa using h8
 have hdo:=LZ (n:=n) h5 h6 h7 h4;have hm:=Sc.Vb (Sc.Ui (n:=n) h5 h4);obtain⟨hS, -, -⟩:=Sc.side hs;have hq:=Sc.V7 hS _ 0 (aBZ _) kd hk;have hgr:=Sc.RN _ 0 kd hk hi _ hm;refine⟨⟨hgr,?_,hdo.cnt,Sc.Ez hdo.ex,Sc.jq hdo.ex⟩,hdo.par⟩;generalize(Sc.dZ n kd).expr=e at *;have hw:=hq.1;cases hpt:kd.part with
 |leaf _ _ _=>rw[hpt] at hm;cases hm
 |gap _ _ _=>rw[hpt] at hm;cases hm
 |branch k a l=>rw[hpt] at hm hw;unfold Tr.Nj at hw;exact Tr.M4 l hw.2.2 e hm
theorem Sc.TG (fs:List Fl):(Sc.uV fs).items.length=fs.length:=by
 rw[<-Sc.JS];unfold Sc.qB;simp
theorem Sc.Oh (fs:List Fl):(Sc.uV fs).names=fs.map (·.1):=by
 rw[<-Sc.JS];rfl
theorem Sc.qm {f:Nat}(h:(Sc.uV fs).items[f]? =some l): ∃hf:f<fs.length,l=Sc.bM f (Sc.dN fs[f].2):=by
 have hf:f<fs.length:=by
  have:=(aCD.1 h).1
  rwa [Sc.TG] at this
 refine⟨hf,?_⟩;have hg:(Sc.uV fs).items[f]? =some (Sc.bM f (Sc.dN fs[f].2)):=by rw[<-Sc.JS];show(List.map (fun y=>Sc.bM y.2 y.1) (fs.map fun f=>Sc.dN f.2).zipIdx)[f]? =_;rw[aDO,List.getElem?_zipIdx];simp[hf]
 rw[h] at hg;injection hg
theorem Sc.Ym (htx: ∀f∈fs,f.2.length<=20000){f k:Nat}(h:(Sc.uV fs).items[f]? =some l)(hx:l[k]? =some x):x.file=f/\(x.bH=true->zI x.expr/\x.params.length<=1000000):=by
 obtain⟨hf,rfl⟩:=Sc.qm h;obtain⟨kd,h1,h2,rfl⟩:=CS hx;exact⟨rfl,fun hd=>Sc.ay (htx _ (aCR hf)) h1 h2 hd⟩
theorem DX.done {w0:World}(hr:EI w0 A fs)(hwb:wb=w0.heap.size)(hd:Below w0.heap.size w0 w)(h16:fs.length<=16)(htx: ∀f∈fs,f.2.length<=20000)
  (hN:DX w wb P A c fs fs.length fs.length (Sc.uV fs).items Ar cr Ai ci):
  ∃F,Rh w F wb A c fs Ai ci (Sc.uV fs)/\yU w w wb (.slice A fs.length c) (.slice Ar fs.length cr) (.slice Ai (Sc.uV fs).items.length ci) []:=by
 have hlen:=Sc.TG fs;obtain⟨ss,h1,h2,h3⟩:=hN.si;have hB:=hN.blk;rw[<-hlen] at h1 h2;have hB2:aV w wb 44 #[.slice A fs.length c,.slice Ar fs.length cr,.slice Ai (Sc.uV fs).items.length ci,nZZ]:=by rw[hlen];exact hB
 obtain⟨_,hrow,_⟩:=bY h2 (fun b=>P b\/(aBX Ai (Sc.uV fs).items.length ci).ownBlock=some b\/wb+1<=b) fun x hx=>.inr (.inr hx)
 refine⟨fun b=>(P b\/(aBX Ai (Sc.uV fs).items.length ci).ownBlock=some b\/wb+1<=b)/\b<w.heap.size,⟨⟨hB2.cell 0,hB2.cell 2,hr.below hd,Sc.Oh fs,hlen.symm,by omega,⟨ss,h1,?_,fun f l s e1 e2=>⟨(h3 f l s e1 e2).1,(h3 f l s e1 e2).2.keep (aBT _) fun x hx hl=>⟨rfl,.inl hx,hl⟩⟩⟩,fun f l h=> ?_⟩,fun x hx=>⟨hx.2,?_⟩,fun b o e hn=> ?_,?_⟩,⟨aBT _,fun _ _ _=>rfl,⟨rfl,rfl,rfl⟩,⟨none,0,hB2,aCW _ _ _ _⟩,hB.lt⟩⟩
 ·exact hrow.keep (aBT _) fun b hb hl=>⟨rfl,hb,hl⟩
 ·obtain⟨hf,rfl⟩:=Sc.qm h;refine⟨?_,fun x hx=> ?_⟩
  ·have h4:=(Sc.yO (htx _ (aCR hf))).len;unfold Sc.bM;rw[aCE];have:=aED Sc.gU (Sc.dN fs[f].2);omega
  ·obtain⟨k,hk,rfl⟩:=aDT hx;obtain⟨kd,_,_,e⟩:=CS (aBY hk);rw[e];rfl
 ·rcases hx.1 with h|h|h
  ·have:=(hN.lt x h).1;omega
  ·have:=(h2.lt x h).1;omega
  ·omega
 ·obtain⟨b',o',e',hl,_⟩:=hr.2 hn;rw[e] at e';injection e' with e';injection e' with e';omega
 ·have:=Sc.YN fs h16 htx;omega
theorem yU.VR {w0 w1 w2:World}{fv rv iv:Value}(h:yU w1 w2 wb fv rv iv us)(hwb:wb=w0.heap.size)(hd:Below w0.heap.size w0 w1):Below w0.heap.size w0 w2:=
 ⟨h.calm.os.trans hd.os,h.calm.tape.trans hd.tape,h.calm.output.trans hd.output,Nat.le_trans hd.size h.size,fun b hb=>(h.old b (aCF hb hd.size) (by omega)).trans (hd.block b hb)⟩
theorem yU.told {w1 w2:World}{fv rv iv:Value}(h:yU w1 w2 wb fv rv iv us): ∃Au cu,w2.cell? ⟨wb,3,none⟩=some (.slice Au us.length cu)/\Fh w2 Au us:=by
 obtain⟨Au,cu,hB,ho⟩:=h.blk;exact⟨Au,cu,hB.cell 3,Rd.rO ho⟩
theorem L8:Ml w none 0 none 0 []:=
 ⟨aBT _,aBT _,fun _=>⟨rfl,rfl⟩,fun _=>⟨rfl,rfl⟩,⟨fun h=>absurd h (by simp),fun _ _ _ h=>absurd h (by simp)⟩,⟨fun h=>absurd h (by simp),fun _ _ _ h=>absurd h (by simp)⟩⟩
end
theorem aBC:(aBS.info? 95).map (fun i=>(i.zero,i.size,i.bytes))=some (some (.agg #[.bool false,.bool false,oZZ,oZZ,oZZ,oZZ,.bool false,oZZ,.bool false,nZZ,oZZ]),11,96):=by kernel_rfl
def Sc.PQ (fs:List Fl)(n:Bs):Bool:=fs.any fun g=>g.1==n
theorem XY{c:Nat}(hr:EI w A fs)(hn: ∀f∈fs,f.1.length<=8388608):
  Calls aBS 13 #[.slice A fs.length c] w (mg (Sc.fO fs:Int) w):=by
 by_cases h16:16<fs.length
 ·have HR:aC (Sc.fO fs=12):=(by show _=_;unfold Sc.fO;rw[if_pos h16]);have j16:(16:Int)<(fs.length:Int):=(by omega);clear hr hn h16;generalize Sc.fO fs=R at *
  go_enter func13,ntmps13
  go_wp2_with fail;go_ret;exact⟨by rw[HR.o];rfl,aBU _ _⟩
 have HR:aC (Sc.fO fs=if(fs.any fun f=>decide (20000<f.2.length))=true then 12 else Sc.iD [] fs):=by show _=_;unfold Sc.fO;rw[if_neg h16]
 generalize Sc.fO fs=R at *;have j16: ¬(16:Int)<(fs.length:Int):=by omega
 have TB:aC (fs.length<=16):=by show _<=_;omega
 have Hn:=aB hn;clear h16 hn
 go_enter func13,ntmps13
 go_wp2_with fail
 go_loopg [3] fs.length (fun mm v wr=> ∃i:Nat,v=vZZ i/\i<=fs.length/\fs.length-i<=mm/\aC (∀j (hj:j<fs.length),j<i->¬20000<fs[j].2.length)/\Below w.heap.size w wr)
 case atStart=>exact⟨0,rfl,aBZ _,aBT _,fun j _ h=>absurd h (by omega),aBU _ _⟩
 case round=>
  obtain⟨i,rfl,hi,hm,HB,hd⟩:=hrel
  by_cases hlt:i<fs.length
  ·have GZ:=iZ i;have EB:=jJ i fs.length;obtain⟨br,o,rfl,hbl,hc0,hc1⟩:=hr.at_ hlt;have q1:=(hd.cell (p:=⟨br,o+i*2+1,none⟩) hbl).trans hc1;have c1:=uX i (by have:=TB.o;omega);have HE:aC (20000<fs[i].2.length->R=12):=fun h=>(by rw[HR.o,if_pos];exact aEI.2 ⟨fs[i],aCR hlt,by simpa using h⟩);have HN:aC (¬20000<fs[i].2.length->∀j (hj:j<fs.length),j<i+1->¬20000<fs[j].2.length):=fun h j hj hji=>by
    rcases aCN j i with h'|h'
    ·exact HB.o j hj h'
    ·obtain rfl:j=i:=(by omega);exact h
   have bZ:=aB hlt;have Hm:=aB hm;generalize fs[i]=x at *;clear hc0 hc1 hbl hlt hm hi HB
   by_cases hx:20000<x.2.length
   ·have HR2:=aB (HE.o hx);have hx1:(20000:Int)<(x.2.length:Int):=(by omega);clear HE HN hx;go_wp2_with fail;go_ret;exact⟨by rw[HR2.o];rfl,hd⟩
   ·have pz:=aB (HN.o hx);have hx1: ¬(20000:Int)<(x.2.length:Int):=(by omega);clear HE HN hx;go_wp2_with fail
    go_roundg (fs.length-(i+1))
    case rel=>exact⟨i+1,by go_num,by have:=bZ.o;omega,aBT _,pz,hd⟩
    case measure=>have:=bZ.o;have:=Hm.o;omega
  ·obtain rfl:i=fs.length:=(by omega);have i1:=lC fs.length;have i2:=kZ fs.length;have HR2:aC (R=Sc.iD [] fs):=(by show _=_;rw[HR.o,if_neg];intro h;obtain⟨x,hx,e⟩:=aEI.1 h;obtain⟨j,hj,e2⟩:=aDT hx;exact HB.o j hj hj (by rw[e2];simpa using e));clear hlt hi hm HB HR;generalize wr=w1 at *;go_wp2_with fail
   go_loopg [4] fs.length (fun mm v wr=> ∃i:Nat,v=vZZ i/\i<=fs.length/\fs.length-i<=mm/\aC (Sc.iD [] fs=Sc.iD (fs.take i) (fs.drop i))/\Below w.heap.size w wr)
   case atStart=>exact⟨0,rfl,aBZ _,aBT _,rfl,hd⟩
   case round=>
    obtain⟨i,rfl,hi,hm,HB,hd2⟩:=hrel;clear hd
    by_cases hlt:i<fs.length
    ·have GZ:=iZ i;have EB:=jJ i fs.length;have hr2:=aB (hr.below hd2);obtain⟨br,o,rfl,hbl,hc0,hc1⟩:=hr.at_ hlt;have q0:=(hd2.cell (p:=⟨br,o+i*2,none⟩) hbl).trans hc0;have c1:=uX i (by have:=TB.o;omega);have hE:Sc.iD (fs.take i) (fs.drop i)=if uJ fs[i].1=false then 4 else if Sc.PQ (fs.take i) fs[i].1=true then 5 else Sc.iD (fs.take (i+1)) (fs.drop (i+1)):=by rw[aDE hlt,aCP hlt];rfl
     have HE:aC (R=if uJ fs[i].1=false then 4 else if Sc.PQ (fs.take i) fs[i].1=true then 5 else Sc.iD (fs.take (i+1)) (fs.drop (i+1))):=(by show _=_;rw[HR2.o,HB.o];exact hE);have HA:aC (∀(n:Bs) (k:Nat) (hk:k<fs.length),Sc.PQ (fs.take (k+1)) n=(Sc.PQ (fs.take k) n||(fs[k].1==n))):=fun n k hk=>(by unfold Sc.PQ;rw[aCP hk,List.any_append];simp);have hnl:=Hn.o fs[i] (aCR hlt);have HNF:aC (∀a b,R=a->Sc.iD [] fs=b->R=Sc.iD [] fs):=fun _ _ _ _=>HR2.o
     have bZ:=aB hlt;have Hm:=aB hm;have hrn:=XW fs[i].1 wr hnl;have HX:aC (fs[i].1=fs[i].1):=rfl;generalize fs[i].1=n at q0 hE HE hrn hnl HX;generalize hnb:uJ n=nb at *;clear hc0 hc1 hbl hlt hm hi HB hE hnl hnb HX;go_wp2_with fail;refine hrn.mono ?_;clear hrn;rintro e5 w5 ⟨rfl,hd5⟩;have q0:=Ya hd5 q0;have JL:=aB (hr2.out.below hd5);have wO:=hd2.trans (hd5.mono hd2.size);clear hd5 hd2 hr2;cases nb with
     |false=>have HR3:aC (R=4):=(by show _=_;rw[HE.o,if_pos rfl]);clear HE;go_wp2_with fail;go_ret;exact⟨by rw[HR3.o];rfl,wO⟩
     |true=>
      have HE2:aC (R=if Sc.PQ (fs.take i) n=true then 5 else Sc.iD (fs.take (i+1)) (fs.drop (i+1))):=(by show _=_;rw[HE.o,if_neg (by decide)]);have IU:=aB wO;have Hq0:=aB q0;clear HE wO q0;go_wp2_with fail
      go_loopg [6] i (fun mm v wy=> ∃k:Nat,v=vZZ k/\k<=i/\i-k<=mm/\aC (Sc.PQ (fs.take k) n=false)/\Below w5.heap.size w5 wy)
      case atStart=>exact⟨0,rfl,aBZ _,aBT _,rfl,aBU _ _⟩
      case round=>
       obtain⟨k,rfl,hk,hm,HB,hdy⟩:=hrel
       by_cases hlk:k<i
       ·have jj0:=iZ k;have jj1:=jJ k i;have hkl:k<fs.length:=(by have:=bZ.o;omega);have jj2:=jJ k fs.length;have c2:=uX k (by have:=TB.o;omega);obtain⟨br2,o2,e,hbl,hc0,hc1⟩:=JL.out.at_ hkl;injection e with e;injection e with e1 e2;subst e1 e2;have q1:=(hdy.cell (p:=⟨br,o+k*2,none⟩) hbl).trans hc0;have q2:=(hdy.cell (p:=⟨br,o+i*2,none⟩) hbl).trans Hq0.o;have HA1:=aB (HA.o n k hkl);have Xd:aC ((fs[k].1==n)=true->Sc.PQ (fs.take i) n=true):=fun h=>by unfold Sc.PQ;exact aEI.2 ⟨fs[k],by rw[List.mem_take_iff_getElem];exact⟨k,by omega,rfl⟩,h⟩
        generalize fs[k].1=n2 at *;have Nc:=aB hlk;have Na:=aB hm;have yx:=aB hdy;clear hc0 hc1 hbl hlk hm hk hkl hdy;generalize hbb:(n2==n)=bb at *;cases bb with
        |true=>
         have HR3:aC (R=5):=(by show _=_;rw[HE2.o,if_pos (Xd.o rfl)]);clear HE2 Xd HA HA1;go_wp2_with fail
         go_quiet (fail)
         go_wp2_with fail;go_ret;exact⟨by rw[HR3.o];rfl,IU.o.trans ((below_drewN yx.o _).mono IU.o.size)⟩
        |false=>
         have HB2:aC (Sc.PQ (fs.take (k+1)) n=false):=(by show _=_;rw[HA1.o,HB.o];rfl);clear HA1 Xd HB;go_wp2_with fail
         go_quiet (fail)
         go_wp2_with fail
         go_roundg (i-(k+1))
         case rel=>exact⟨k+1,by go_num,by have:=Nc.o;omega,aBT _,HB2,below_drewN yx.o _⟩
         case measure=>have:=Nc.o;have:=Na.o;omega
       ·obtain rfl:i=k:=(by omega);have i1:=lC i;have i2:=kZ i;have HR3:aC (Sc.iD [] fs=Sc.iD (fs.take (i+1)) (fs.drop (i+1))):=(by show _=_;rw[<-HR2.o,HE2.o,if_neg (by rw[HB.o];decide)]);have yx:=aB hdy;clear HE2 hlk hm hk hdy HA HB;go_wp2_with fail
        go_roundg (fs.length-(i+1))
        case rel=>exact⟨i+1,by go_num,by have:=bZ.o;omega,aBT _,HR3,IU.o.trans (yx.o.mono IU.o.size)⟩
        case measure=>have:=bZ.o;have:=Hm.o;omega
    ·obtain rfl:i=fs.length:=(by omega);have i1:=lC fs.length;have i2:=kZ fs.length;have HR3:aC (R=0):=(by show _=_;rw[HR2.o,HB.o,aEG];rfl);clear hlt hi hm HB HR2;go_wp2_with fail;go_ret;exact⟨by rw[HR3.o];rfl,hd2⟩
end Go.Proofs.YtcjjfeephaddcaaGreatDoor
