import Derived.Test.YtcjjfeephaddcaaGreatDoorJau
set_option linter.all false
open Array renaming getD_eq_getD_getElem?->aDS,getElem?_eq_getElem->aGF,getElem?_setIfInBounds->aGP,size_setIfInBounds->aGQ
open Go.RowKit.Below renaming refl->aBU
open Go.Value renaming slice->aBX,ownBlock->aCZ,pointer->aEJ
open List renaming length_append->aBW,getElem?_eq_getElem->aBY,getElem?_eq_some_iff->aCD,length_map->aCE,mem_cons->aCJ,mem_of_getElem?->aDC,getElem?_append_left->aDM,getElem?_append_right->aEE,mem_cons_of_mem->aEK,range->aEN,flatMap_cons->aEU,mem_cons_self->aFD,all_eq_true->aFF
open Nat renaming le_refl->aBT,le_trans->aBV,lt_or_ge->aCN
set_option maxHeartbeats 64000000
set_option maxRecDepth 100000
open Go.Proofs.Tryz
namespace Go.Proofs.YtcjjfeephaddcaaGreatDoor
open Go.RowKit Go.Maps
variable{l:List Sc.It}{k:Nat}{x:Sc.It}{w w':World}{v:Value}{F:Nat->Prop}{a:Act}
theorem Sc.QC (hx:l[k]? =some x){y:Sc.Wd}(hn:x.name=some y):(uM (Sc.bJ l y.text) !=(k:Int))=Sc.dW l k:=by
 obtain⟨hk,rfl⟩:=aCD.1 hx;have ht:Sc.dW l k=(l.take k).any (Sc.named y.text):=by unfold Sc.dW;rw[hx];simp only[Option.bind_some,hn]
 have hself:Sc.named y.text l[k]=true:=by unfold Sc.named;rw[hn];simp
 rw[ht];cases ha:(l.take k).any (Sc.named y.text)with
 |false=>have hb: ∀j (hj:j<l.length),j<k->Sc.named y.text l[j]=false:=fun j hj hjk=>(by have h1:=List.any_eq_false.1 ha (l[j]) (by rw[List.mem_take_iff_getElem];exact⟨j,by omega,rfl⟩);simpa using h1);rw[(MX k hk hb).1 hself];simp[uM]
 |true=>
  obtain⟨z,hz,hnz⟩:=List.any_eq_true.1 ha;rw[List.mem_take_iff_getElem] at hz;obtain⟨i,hi,rfl⟩:=hz;cases hf:Sc.bJ l y.text with
  |none=>unfold Sc.bJ at hf;rw[List.findIdx?_eq_none_iff] at hf;have:=hf l[k] (List.getElem_mem hk);rw[hself] at this;cases this
  |some j=>unfold Sc.bJ at hf;obtain⟨hj,_,hmin⟩:=List.findIdx?_eq_some_iff_getElem.1 hf;have hne:j≠k:=fun e=>(by subst e;have:=hmin i (by omega);rw[hnz] at this;simp at this);have:((j:Int)==(k:Int))=false:=(by simp;omega);unfold uM;simp only[bne,this];rfl
theorem Sc.M9 (hx:l[k]? =some x)(hn:x.name=none):Sc.dW l k=false:=by
 unfold Sc.dW;rw[hx];simp only[Option.bind_some,hn]
section
variable{w0 w:World}{F:Nat->Prop}{wb:Nat}{A:Option Addr}{c:Nat}{fs:List Fl}{Ai:Option Addr}{ci:Nat}{W:Sc.Wk}{rv:Value}{us:List Sc.Us}
theorem Qc.NU {g tok m c:Nat}{t:Bs}{A:Option Addr}{f:Int}(h:Qc w g k tok t A m c f)(hd:Below w.heap.size w w'):Qc w' g k tok t A m c f:=h.aG (aD.below (T:=[]) hd) (by simp)
theorem Rh.Dp (h:Rh w0 F wb A c fs Ai ci W){fv rv iv fv' rv' iv':Value}{us Yr:List Sc.Us}(hP:yU w0 w wb fv rv iv us)(hP':yU w0 w' wb fv' rv' iv' Yr){y:Option Sc.Wd}(hq:EF w F y v):EF w' F y v:=
 hq.keep fun b hb _=>⟨((h.same hP' b hb (h.ok b hb).1).1).trans (h.same hP b hb (h.ok b hb).1).1.symm,hb⟩
theorem Ii(h:Rh w0 F wb A c fs Ai ci W)(hP:yU w0 w wb (.slice A fs.length c) rv (.slice Ai W.items.length ci) us){f:Nat}(hl:W.items[f]? =some l)(hx:l[k]? =some x)(hdf:x.bH=false)(hln:us.length+10<=1000000000):
  Calls Tryz.prog 38 #[pZZ wb,vZZ f,vZZ k] w (Fs w0 w wb (.slice A fs.length c) rv (.slice Ai W.items.length ci) (us++Sc.EM W f k x)):=by
 have hr:=h.at_ hP;obtain rfl:x.file=f:=(h.wk.Uh f l hl).2 x (aDC hx);have hst:=Sc.KT (W:=W) (by rw[Sc.CU hl];exact hx) hdf;have E_:=Sc.CU hl;have HE:aC (us++Sc.EM W x.file k x=us++x.mo.toList.map (Sc.wN W x)++x.me.toList.map (fun m=>⟨x.file,m.at_,4,(Sc.bP W x.file k x).1,(Sc.bP W x.file k x).2.1,if(Sc.bP W x.file k x).2.2=0/\x.has=false/\Sc.dW l k=true then 5 else(Sc.bP W x.file k x).2.2⟩)++
   x.al.toList.map (fun m=>⟨x.file,m.at_,5,(Sc.bP W x.file k x).1,(Sc.bP W x.file k x).2.1,if Sc.dW l k then 5 else 0⟩)):=by
  show _=_;unfold Sc.EM;rw[E_];simp only[List.append_assoc]
 have HTt:aC (∀y,x.name=some y->(uM (Sc.bJ l y.text) !=(k:Int))=Sc.dW l k):=fun y hy=>Sc.QC hx hy
 have HTn:aC (x.name=none->Sc.dW l k=false):=fun hy=>Sc.M9 hx hy
 generalize Sc.bP W x.file k x=R at *;obtain⟨RA,RB,RE⟩:=R;dsimp only at HE;generalize us++Sc.EM W x.file k x=ue at *;generalize Sc.dW l k=tw at *;have hfl:=(aCD.1 hl).1;have hkl:=(aCD.1 hx).1;have ff0:(0:Int)<=(x.file:Int):=by omega
 have ff1:(x.file:Int)<(W.items.length:Int):=by omega
 have kk0:=iZ k;have kk1:=jJ k l.length;obtain⟨r,o,sA,sc,rfl,hs,hrow⟩:=hr.file hl;have p2:=hr.p2;obtain⟨b,o2,rfl,FP,hbl,hc⟩:=hrow (by omega);obtain⟨cs,hi,hcs⟩:=hc k x hx;obtain⟨pd,pn,pm,pe,pa,pb,Ap,cp,rfl,hn,hm,he,ha, -, -, -⟩:=hi.form;obtain⟨q0,q1,q2,q3,q4,q5,q6,q7,q8,q9,wF⟩:=mW hcs;obtain⟨OO,hbx⟩:=uS w 95 (JI x (.pointer pd) (.pointer pn) (.pointer pm) (.pointer pe) (.pointer pa) (.pointer pb) Ap cp);unfold JI at OO hbx;have Hh:=aB h;have Hl:=aB hl;have Hx:=aB hx;have kC:=aB hst;have J5:=aB hln;have Hp:=aB hP;have Hn:=aB hn;have Hm:=aB hm;have He:=aB he;have Ha:=aB ha;have Hcm:aC (Sc.mM W<=1000000000):=by have:=Sc.BL (W:=W);have:=h.many;show _<=_;omega
 clear hi hcs hc hbl FP hrow hr hst E_ hfl hkl hn hm he ha h hl hx hln hP hdf;have HCM:aC (∃CM,CM=Sc.mM W):=⟨_,rfl⟩
 go_enter func38,ntmps38
 go_upto_region 1 with fail;obtain⟨bx,hbx0⟩:=dC w.heap.size;rw[<-hbx0] at hbx⊢;clear hbx0 q0 q1 q2 q3 q4 q5 q6 q7 q8 q9 wF hs p2;generalize w.alloc _=w1 at *;generalize x.bH=xd at *;generalize x.yZ=xp at *;generalize x.jT=xq at *;generalize x.params.length=xl at *;have wL:=aB OO;have Hb1:=aB hbx;have x3:=hbx.cell 3;simp at x3;clear OO hbx;go_upto_if 28 with fail;have aAV:=wL
 go_cut [7] (fun v wc=>v=kZZ ((if tw then 5 else 0:Nat):Int)/\Below w1.heap.size w1 wc)
 case first=>
  have hr1:=Hh.o.at_ (Hp.o.below wL.o);cases zA:x.name with
  |none=>have h1:=Hn.o;rw[zA] at h1;obtain rfl:pn=none:=(by have e:aEJ pn=oZZ:=h1;injection e);obtain rfl:tw=false:=HTn.o zA;clear zA h1 HTt HTn HE x3 hr1;go_wp2_with fail;go_meet;exact⟨rfl,aBU _ _⟩
  |some y=>
   have h1:=Hn.o;rw[zA] at h1;have hb:=HTt.o y zA;obtain⟨g,e,_,hQ⟩:=h1;injection e with e;subst e;have z2:=(hQ.NU wL.o).cells.2.2.1;have htp:=uH hr1 Hl.o y.text;generalize uM (Sc.bJ l y.text)=I at *;clear zA hQ HTt HTn HE hr1;cases tw with
   |true=>go_wp2_with fail;refine htp.mono ?_;clear htp z2;rintro e4 w4 ⟨rfl,hd4⟩;have wK:=aB hd4;clear hd4;go_wp2_with fail;go_meet;exact⟨rfl,wK.o⟩
   |false=>go_wp2_with fail;refine htp.mono ?_;clear htp z2;rintro e4 w4 ⟨rfl,hd4⟩;have wK:=aB hd4;clear hd4;go_wp2_with fail;go_meet;exact⟨rfl,wK.o⟩
 case rest=>
  obtain⟨rfl,hdc⟩:=hcut;generalize wc=w2 at *;have nG:=aB (wL.o.trans (hdc.mono wL.o.size));have Hb2:=aB (Hb1.o.below hdc Hb1.o.lt);have x4:=Hb2.o.cell 4;simp at x4;clear hdc x3 wL Hb1 aAV HTt HTn;obtain⟨T,hT⟩: ∃T:Nat,T=if tw then 5 else 0:=⟨_,rfl⟩
  rw[<-hT];have HTw:=aB hT;clear hT;go_upto_if 42 with fail
  go_cut [10] (fun _ wc=>yU w0 wc wb (.slice A fs.length c) rv (.slice (some ⟨r,o,none⟩) W.items.length ci) (us++x.mo.toList.map (Sc.wN W x))/\aD [44,101] w2 wc/\w2.heap.size<=wc.heap.size)
  case first=>
   have hP2:=Hp.o.below nG.o;cases hxm:x.mo with
   |none=>have h1:=Hm.o;rw[hxm] at h1;obtain rfl:pm=none:=(by have e:aEJ pm=oZZ:=h1;injection e);have L6:=aB hP2;have Bt:=aB hxm;clear hxm h1 hP2 HE x4;go_wp2_with fail;go_meet;exact⟨by rw[Bt.o];simpa using L6.o,aD.refl _ _,aBT _⟩
   |some m=>
    have h1:=Hm.o;rw[hxm] at h1;obtain⟨g,e,_,hQ⟩:=id h1;injection e with e;subst e;have hmd:=vE (Hh.o.at_ hP2) (Hh.o.Dp Hp.o hP2 h1);have hfm:((some m).bind fun m=>W.names.findIdx? (· ==m.text))=Sc.nQ W x:=by unfold Sc.nQ;rw[hxm]
    rw[hfm] at hmd;have HM:aC (Sc.wN W x m=match Sc.nQ W x with|some g=>⟨x.file,m.at_,3,g, -1,0⟩|none=>⟨x.file,m.at_,3, -1, -1,4⟩):=rfl;have HQ:=aB (hQ.NU nG.o);have L6:=aB hP2;have Bt:=aB hxm;clear hxm h1 hP2 HE hQ hfm;go_wp2_with fail;refine hmd.mono ?_;clear hmd x4;rintro e4 w4 ⟨rfl,hd4⟩;have x4:=(Hb2.o.below hd4 Hb2.o.lt).cell 4;simp at x4;have z6:=(HQ.o.NU hd4).cells.2.2.2.2;obtain⟨IX,hIX⟩:=dC (uM (Sc.nQ W x));rw[<-hIX];have hd5:=hd4.alloc hd4.size (.cells #[kZZ (x.file:Int),kZZ (m.at_:Int),kZZ 3,kZZ IX,kZZ (-1),kZZ 0] 101);have j6:=aV.new w4 101 #[kZZ (x.file:Int),kZZ (m.at_:Int),kZZ 3,kZZ IX,kZZ (-1),kZZ 0];obtain⟨r2,hr2⟩:=dC w4.heap.size;rw[<-hr2] at j6;have Hr2:aC (w2.heap.size<=r2):=by show _<=_;rw[hr2];exact hd4.size
    have HIX:=aB hIX;have IU:=aB hd5;have Hu5:=aB j6;clear hIX hd4 hd5 j6;go_upto_region 9 with fail;rw[<-hr2];clear hr2 x4 z6;generalize w4.alloc _=w5 at *;have Nb:aC (us.length<=1000000000):=by have:=J5.o;show _<=_;omega
    cases uy:Sc.nQ W x with
    |none=>
     have HM2:aC (Sc.wN W x m=⟨x.file,m.at_,3, -1, -1,4⟩):=(by show _=_;rw[HM.o,uy]);obtain rfl:IX= -1:=(by rw[HIX.o,uy];rfl);obtain⟨⟨k0,k1,k2,k3,k4,k5⟩,y0,y1,y2,y3,y4,y5⟩:=aX Hu5.o;clear uy HM HIX k0 k1 k2 k3 k4 y0 y1 y2 y3 y4;go_upto_region 11 with fail;clear k5 y5;have hd6:=IU.o.setCell (p:=⟨r2,5,none⟩) Hr2.o (kZZ 4);have K5:aV (w5.setCell ⟨r2,5,none⟩ (kZZ 4)) r2 101 #[kZZ (x.file:Int),kZZ (m.at_:Int),kZZ 3,kZZ (-1),kZZ (-1),kZZ 4]:=by have h1:=Hu5.o.bD 5 (kZZ 4);simpa using h1
     generalize w5.setCell _ _=w6 at *;have had:=gP (L6.o.below hd6) (u:=⟨x.file,m.at_,3, -1, -1,4⟩) (Nb.o);rw[show iT (⟨x.file,m.at_,3, -1, -1,4⟩:Sc.Us)=#[kZZ (x.file:Int),kZZ (m.at_:Int),kZZ 3,kZZ (-1),kZZ (-1),kZZ 4] from rfl] at had;obtain⟨⟨k0,k1,k2,k3,k4,k5⟩,_⟩:=aX K5;have Gd:=aB (aD.below (T:=[44,101]) hd6);have Gb:=aB hd6.size;clear hd6 K5;go_wp2_with fail;refine had.mono ?_;clear had k0 k1 k2 k3 k4 k5;rintro e9 w9 ⟨rfl,BD,wH,AY⟩;have Xk:=aB BD;have qf:=aB (Gd.o.trans wH);have Ce:=aB (aBV Gb.o AY);clear BD wH AY Gd Gb;go_wp2_with fail;go_meet;exact⟨by rw[Bt.o];rw[<-HM2.o] at Xk;exact Xk.o,qf.o,Ce.o⟩
    |some gm=>have HM2:aC (Sc.wN W x m=⟨x.file,m.at_,3,gm, -1,0⟩):=(by show _=_;rw[HM.o,uy]);obtain rfl:IX=(gm:Int):=(by rw[HIX.o,uy];rfl);have hd6:=IU.o;have K5:=Hu5.o;have ng: ¬(gm:Int)<0:=(by omega);clear uy HM HIX IU Hu5;go_upto_region 11 with fail;have had:=gP (L6.o.below hd6) (u:=⟨x.file,m.at_,3,gm, -1,0⟩) (Nb.o);rw[show iT (⟨x.file,m.at_,3,gm, -1,0⟩:Sc.Us)=#[kZZ (x.file:Int),kZZ (m.at_:Int),kZZ 3,vZZ gm,kZZ (-1),kZZ 0] from rfl] at had;obtain⟨⟨k0,k1,k2,k3,k4,k5⟩,_⟩:=aX K5;have Gd:=aB (aD.below (T:=[44,101]) hd6);have Gb:=aB hd6.size;clear hd6 K5;go_wp2_with fail;refine had.mono ?_;clear had k0 k1 k2 k3 k4 k5;rintro e9 w9 ⟨rfl,BD,wH,AY⟩;have Xk:=aB BD;have qf:=aB (Gd.o.trans wH);have Ce:=aB (aBV Gb.o AY);clear BD wH AY Gd Gb;go_wp2_with fail;go_meet;exact⟨by rw[Bt.o];rw[<-HM2.o] at Xk;exact Xk.o,qf.o,Ce.o⟩
  case rest=>
   obtain⟨Tm,hKc,hzc⟩:=hcut;generalize wc=w3 at *;have ZE:=KR (Hh.o.at_ Tm) Hh.o.many;have Hlc:aC ((us++x.mo.toList.map (Sc.wN W x)).length+9<=1000000000):=(by have:=J5.o;have h1:(x.mo.toList.map (Sc.wN W x)).length<=1:=(by rw[aCE];cases x.mo<;>simp);show _<=_;rw[aBW];omega);generalize us++x.mo.toList.map (Sc.wN W x)=u1 at *;have Hb3:=aB (Hb2.o.aG hKc (by decide));have HPc:=aB Tm;have HKc:=aB hKc;have HZc:=aB hzc;clear Tm hKc hzc x4 Hb2;go_wp2_with fail;refine ZE.mono ?_;clear ZE;rintro e4 w4 ⟨rfl,hd4⟩;have hst:=BZ (Sc.mM W) (Hh.o.at_ (HPc.o.below hd4)) Hl.o Hx.o Hcm.o;rw[kC.o] at hst;have wK:=aB hd4;generalize Sc.mM W=CM at *;clear hd4;go_wp2_with fail;refine hst.mono ?_;clear hst;rintro e5 w5 ⟨rfl,hd5⟩;have IU:=aB (wK.o.trans (hd5.mono wK.o.size));have hb5:=Hb3.o.below IU.o Hb3.o.lt;have x5:=hb5.cell 5;simp at x5;have pq:=aB (HPc.o.below IU.o);have HK5:=aB (HKc.o.trans (aD.below IU.o));have HZ5:=aB (aBV HZc.o IU.o.size);have Hb5:=aB hb5;clear hd5 hb5 wK IU HPc HKc HZc Hb3;go_upto_if 74 with fail
   go_cut [15] (fun _ wc=>yU w0 wc wb (.slice A fs.length c) rv (.slice (some ⟨r,o,none⟩) W.items.length ci) (u1++x.me.toList.map (fun m=>(⟨x.file,m.at_,4,RA,RB,if RE=0/\x.has=false/\tw=true then 5 else RE⟩:Sc.Us)))/\aD [44,101] w5 wc/\w5.heap.size<=wc.heap.size)
   case first=>
    cases hxm:x.me with
    |none=>have h1:=He.o;rw[hxm] at h1;obtain rfl:pe=none:=(by have e:aEJ pe=oZZ:=h1;injection e);have Bt:=aB hxm;clear hxm h1 HE x5;go_wp2_with fail;go_meet;exact⟨by rw[Bt.o];simpa using pq.o,aD.refl _ _,aBT _⟩
    |some m=>
     have h1:=Hh.o.Dp Hp.o pq.o He.o;rw[hxm] at h1;obtain⟨g,e,_,hQ⟩:=h1;injection e with e;subst e;have z6:=hQ.cells.2.2.2.2;have HML:aC (x.me.toList.map (fun m=>(⟨x.file,m.at_,4,RA,RB,if RE=0/\x.has=false/\tw=true then 5 else RE⟩:Sc.Us))=[⟨x.file,m.at_,4,RA,RB,if RE=0/\x.has=false/\tw=true then 5 else RE⟩]):=by show _=_;rw[hxm];rfl
     have hd6:=(aBU w5.heap.size w5).alloc (aBT _) (.cells #[kZZ (x.file:Int),kZZ (m.at_:Int),kZZ 4,kZZ RA,kZZ RB,vZZ RE] 101);have K5:=aV.new w5 101 #[kZZ (x.file:Int),kZZ (m.at_:Int),kZZ 4,kZZ RA,kZZ RB,vZZ RE];have hb6:=Hb5.o.alloc (.cells #[kZZ (x.file:Int),kZZ (m.at_:Int),kZZ 4,kZZ RA,kZZ RB,vZZ RE] 101);obtain⟨r2,hr2⟩:=dC w5.heap.size;rw[<-hr2] at K5;have Hr2:aC (w5.heap.size<=r2):=(by show _<=_;rw[hr2];exact aBT _);have Hd6:=aB hd6;have Hu6:=aB K5;have Nb:aC (u1.length<=1000000000):=(by have:=Hlc.o;show _<=_;omega);clear hxm HE hQ hd6 K5;go_upto_region 16 with fail;rw[<-hr2];clear hr2 x5 z6;generalize w5.alloc _=w6 at *;have x6:=hb6.cell 6;simp at x6;clear hb6
     by_cases hre:RE=0/\x.has=false
     ·obtain⟨hre0,hxh⟩:=hre;subst hre0;rw[hxh] at x6;have HV:aC (x.me.toList.map (fun m=>(⟨x.file,m.at_,4,RA,RB,if 0=0/\x.has=false/\tw=true then 5 else 0⟩:Sc.Us))=[⟨x.file,m.at_,4,RA,RB,T⟩]):=(by show _=_;rw[HML.o,HTw.o,hxh];cases tw<;>simp);clear HML;obtain⟨⟨k0,k1,k2,k3,k4,k5⟩,y0,y1,y2,y3,y4,y5⟩:=aX Hu6.o;clear hxh k0 k1 k2 k3 k4 y0 y1 y2 y3 y4;go_upto_region 18 with fail;clear k5 y5 x6;have hd7:=Hd6.o.setCell (p:=⟨r2,5,none⟩) Hr2.o (vZZ T);have Xv:aV (w6.setCell ⟨r2,5,none⟩ (vZZ T)) r2 101 #[kZZ (x.file:Int),kZZ (m.at_:Int),kZZ 4,kZZ RA,kZZ RB,vZZ T]:=by have h1:=Hu6.o.bD 5 (vZZ T);simpa using h1
      generalize w6.setCell _ _=w7 at *;have had:=gP (pq.o.below hd7) (u:=⟨x.file,m.at_,4,RA,RB,T⟩) (Nb.o);rw[show iT (⟨x.file,m.at_,4,RA,RB,T⟩:Sc.Us)=#[kZZ (x.file:Int),kZZ (m.at_:Int),kZZ 4,kZZ RA,kZZ RB,vZZ T] from rfl] at had;obtain⟨⟨k0,k1,k2,k3,k4,k5⟩,_⟩:=aX Xv;have Gd:=aB (aD.below (T:=[44,101]) hd7);have Gb:=aB hd7.size;clear hd7 Xv;go_wp2_with fail;refine had.mono ?_;clear had k0 k1 k2 k3 k4 k5;rintro e9 w9 ⟨rfl,BD,wH,AY⟩;have Xk:=aB BD;have qf:=aB (Gd.o.trans wH);have Ce:=aB (aBV Gb.o AY);clear BD wH AY Gd Gb;go_wp2_with fail;go_meet;exact⟨by rw[HV.o];exact Xk.o,qf.o,Ce.o⟩
     ·have HV:aC (x.me.toList.map (fun m=>(⟨x.file,m.at_,4,RA,RB,if RE=0/\x.has=false/\tw=true then 5 else RE⟩:Sc.Us))=[⟨x.file,m.at_,4,RA,RB,RE⟩]):=(by show _=_;rw[HML.o,if_neg (fun h=>hre ⟨h.1,h.2.1⟩)]);clear HML;have hd7:=Hd6.o;have Xv:=Hu6.o;clear Hd6 Hu6
      by_cases hz:RE=0
      ·have hxh:x.has=true:=by
        cases e:x.has with
        |true=>rfl
        |false=>exact absurd ⟨hz,e⟩ hre
       subst hz;rw[hxh] at x6;clear hxh hre;go_upto_region 18 with fail;clear x6;have had:=gP (pq.o.below hd7) (u:=⟨x.file,m.at_,4,RA,RB,0⟩) (Nb.o);rw[show iT (⟨x.file,m.at_,4,RA,RB,0⟩:Sc.Us)=#[kZZ (x.file:Int),kZZ (m.at_:Int),kZZ 4,kZZ RA,kZZ RB,kZZ 0] from rfl] at had;obtain⟨⟨k0,k1,k2,k3,k4,k5⟩,_⟩:=aX Xv;have Gd:=aB (aD.below (T:=[44,101]) hd7);have Gb:=aB hd7.size;clear hd7 Xv;go_wp2_with fail;refine had.mono ?_;clear had k0 k1 k2 k3 k4 k5;rintro e9 w9 ⟨rfl,BD,wH,AY⟩;have Xk:=aB BD;have qf:=aB (Gd.o.trans wH);have Ce:=aB (aBV Gb.o AY);clear BD wH AY Gd Gb;go_wp2_with fail;go_meet;exact⟨by rw[HV.o];exact Xk.o,qf.o,Ce.o⟩
      ·have n0:((RE:Int)==(0:Int))=false:=(by simp;omega);clear hre hz;go_upto_region 18 with fail;clear x6;have had:=gP (pq.o.below hd7) (u:=⟨x.file,m.at_,4,RA,RB,RE⟩) (Nb.o);rw[show iT (⟨x.file,m.at_,4,RA,RB,RE⟩:Sc.Us)=#[kZZ (x.file:Int),kZZ (m.at_:Int),kZZ 4,kZZ RA,kZZ RB,vZZ RE] from rfl] at had;obtain⟨⟨k0,k1,k2,k3,k4,k5⟩,_⟩:=aX Xv;have Gd:=aB (aD.below (T:=[44,101]) hd7);have Gb:=aB hd7.size;clear hd7 Xv;go_wp2_with fail;refine had.mono ?_;clear had k0 k1 k2 k3 k4 k5;rintro e9 w9 ⟨rfl,BD,wH,AY⟩;have Xk:=aB BD;have qf:=aB (Gd.o.trans wH);have Ce:=aB (aBV Gb.o AY);clear BD wH AY Gd Gb;go_wp2_with fail;go_meet;exact⟨by rw[HV.o];exact Xk.o,qf.o,Ce.o⟩
   case rest=>
    obtain⟨Tm,hKc,hzc⟩:=hcut;generalize wc=w6 at *;have HP6:=aB Tm;have HK6:=aB (HK5.o.trans hKc);have HZ6:=aB (aBV HZ5.o hzc);have x7:=(Hb5.o.aG hKc (by decide)).cell 7;simp at x7;clear Tm hKc hzc x5 Hb5;have Hl6:aC ((u1++x.me.toList.map (fun m=>(⟨x.file,m.at_,4,RA,RB,if RE=0/\x.has=false/\tw=true then 5 else RE⟩:Sc.Us))).length<=1000000000):=(by have:=Hlc.o;have h1:(x.me.toList.map (fun m=>(⟨x.file,m.at_,4,RA,RB,if RE=0/\x.has=false/\tw=true then 5 else RE⟩:Sc.Us))).length<=1:=(by rw[aCE];cases x.me<;>simp);show _<=_;rw[aBW];omega);generalize u1++x.me.toList.map (fun m=>(⟨x.file,m.at_,4,RA,RB,if RE=0/\x.has=false/\tw=true then 5 else RE⟩:Sc.Us))=u2 at *;cases hxm:x.al with
    |none=>have h1:=Ha.o;rw[hxm] at h1;obtain rfl:pa=none:=(by have e:aEJ pa=oZZ:=h1;injection e);have HE2:aC (ue=u2):=(by show _=_;rw[HE.o,hxm];simp);clear hxm h1 HE;go_wp2_with fail;go_end0;exact⟨rfl,by rw[HE2.o];exact HP6.o,(aD.below nG.o).trans HK6.o,aBV nG.o.size HZ6.o⟩
    |some m=>
     have h1:=Hh.o.Dp Hp.o HP6.o Ha.o;rw[hxm] at h1;obtain⟨g,e,_,hQ⟩:=h1;injection e with e;subst e;have z6:=hQ.cells.2.2.2.2;have HE2:aC (ue=u2++[⟨x.file,m.at_,5,RA,RB,T⟩]):=by show _=_;rw[HE.o,hxm,HTw.o];rfl
     have had:=gP HP6.o (u:=⟨x.file,m.at_,5,RA,RB,T⟩) Hl6.o;rw[show iT (⟨x.file,m.at_,5,RA,RB,T⟩:Sc.Us)=#[kZZ (x.file:Int),kZZ (m.at_:Int),kZZ 5,kZZ RA,kZZ RB,vZZ T] from rfl,<-HE2.o] at had;clear hxm HE hQ HE2;go_wp2_with fail;refine had.mono ?_;clear had z6 x7;rintro e9 w9 ⟨rfl,BD,wH,AY⟩;go_wp2_with fail;go_end0;exact⟨rfl,BD,(aD.below nG.o).trans (HK6.o.trans wH),aBV nG.o.size (aBV HZ6.o AY)⟩
end
open Go.RowKit
theorem jZ.rz : ∀{l:List Tr.PT} {a:Nat} {fp:List Nat} {vs:List Value} {j:Nat} {p:Tr.PT},jZ w F l a fp vs->l[j]? =some p->∃a' fp' v,vs[j]? =some v/\EE w F p a' fp' v
 | [],_,_,_,_,_,_,h=>by simp at h
 |q::l,a,fp,vs,0,p,h,hp=>by obtain⟨fp',kP,v,vs',_,rfl,hq,_⟩:=h;simp at hp;subst hp;exact⟨a,fp',v,rfl,hq⟩
 |q::l,a,fp,vs,j+1,p,h,hp=>by obtain⟨fp',kP,v,vs',_,rfl,_,hl⟩:=h;obtain⟨a',fp2,u,hu,hn⟩:=hl.rz (j:=j) (p:=p) (by simpa using hp);exact⟨a',fp2,u,by simpa using hu,hn⟩
theorem Dw{s:Bs}{T:List Tk}(hS:Tr.Side s T){ts:List Tr.PT}: ∀(f i:Nat),i<=T.length->∀(fp:List Nat) (vs:List Value),jZ w F ((Tr.bV s T f i).1.map (·.part)++ts) (Tr.dD s T i) fp vs->∀(j:Nat) (kd:Tr.Kd),(Tr.bV s T f i).1[j]? =some kd->∃v,vs[j]? =some v/\nK w F kd.base kd.part v
 |0,i,_,fp,vs,_,j,kd,hk=>by unfold Tr.bV at hk;simp at hk
 |f+1,i,hi,fp,vs,h,j,kd,hk=>by
  rw[Tr.nO] at hk h;split at hk
  ·rename_i hn;rw[if_pos hn] at h;obtain⟨a1,a2,a3,a4⟩:=Tr.uI ((Tr.LQ hS).at_ hi);obtain⟨fp',kP,v,vs',_,rfl,hq,hl⟩:=h;cases j with
   |zero=>simp at hk;subst hk;exact⟨v,rfl,nK.YI _ _ _ _ hq (Tr.Dy hS i hi hn)⟩
   |succ j=>have h1:=Tr.EK (Tr.dU s T i).1;rw[a1,Tr.TM hS.good a3] at h1;have h3:=hS.good.up i _ a3;have he:(Tr.gF (Tr.dU s T i).1 (Tr.dD s T i)).end_=Tr.dD s T (Tr.dU s T i).2:=(by rw[Tr.sQ];omega);have hl:jZ w F ((Tr.bV s T f (Tr.dU s T i).2).1.map (·.part)++ts) (Tr.gF (Tr.dU s T i).1 (Tr.dD s T i)).end_ kP vs':=hl;rw[he] at hl;obtain⟨u,hu,hqn⟩:=Dw hS f (Tr.dU s T i).2 a4 kP vs' hl j kd (by simpa using hk);exact⟨u,by simpa using hu,hqn⟩
  ·simp at hk
def Sc.UJ:Tr.PT->Nat
 | .leaf _ _ _=>0
 | .gap _ _ _=>1
 | .branch k _ _=>k
theorem EE.kind {p:Tr.PT}{a:Nat}{fp:List Nat}(h:EE w F p a fp v): ∃g,v=pZZ g/\F g/\w.cell? ⟨g,0,none⟩=some (kZZ (Sc.UJ p:Int))/\∃cs,aV w g 93 cs:=by
 cases p with
 |leaf k t x=>obtain⟨g,e,_,hF,hB⟩:=h;exact⟨g,e,hF,hB.cell 0,_,hB⟩
 |gap t x d=>obtain⟨g,e,_,hF,hB⟩:=h;exact⟨g,e,hF,hB.cell 0,_,hB⟩
 |branch k x l=>obtain⟨g,dB,e,_,hF,A,c,vs,hB,_⟩:=h;exact⟨g,e,hF,hB.cell 0,_,hB⟩
section
variable{P:Program}{ops:Array Oper}{Q:Exit->Act->World->Prop}{md:Region.Mode}
def XN(a:Act):Option Nat->Value
 |some d=>a.tmps.getD d undef
 |none=>undef
def aBk:Option Nat->Value->Value
 |some _,v=>v
 |none,_=>undef
structure KJ(t0:Array Value)(D:List (Option Nat))(R:Array Bool->Nat->Value->World->Prop)(G:World->Prop)(listed:Array Bool)(a:Act)(w:World):Prop where
 ls:listed.size=D.length
 ts:a.tmps.size=t0.size
 ds:a.defers=[]
 fx: ∀j,some j∉D->a.tmps.getD j undef=t0.getD j undef
 gw:G w
 done: ∀i,i<D.length->listed.getD i true=true->R listed i (XN a (D[i]?.getD none)) w
theorem FR{tmps:Array Value}{d:Nat}(hd:d<tmps.size)(j:Nat):(tmps.setIfInBounds d v).getD j undef=if d=j then v else tmps.getD j undef:=by
 rw[aDS,aDS,aGP]
 by_cases h:d=j
 ·rw[if_pos h,if_pos h,if_pos hd];rfl
 ·rw[if_neg h,if_neg h]
def Cw(D:List (Option Nat))(n:Nat):Bool:=(D.filterMap id).all (fun d=>decide (d<n))&&(aEN D.length).all fun i=>(aEN D.length).all fun j=>i==j||(D[i]?.getD none).isNone|| !(decide ((D[i]?.getD none)=(D[j]?.getD none)))
theorem KJ.step {t0:Array Value}{D:List (Option Nat)}{R:Array Bool->Nat->Value->World->Prop}{G:World->Prop}{listed:Array Bool}{i:Nat}{v:Value}(h:KJ t0 D R G listed a w){n:Nat}(hn:t0.size=n)(hD:Cw D n=true)(hi:i<D.length)(hg:G w')
  (hr:R (listed.setIfInBounds i true) i (aBk (D[i]?.getD none) v) w') (hk: ∀j,j<D.length->j≠i->listed.getD j true=true->R listed j (XN a (D[j]?.getD none)) w->R (listed.setIfInBounds i true) j (XN a (D[j]?.getD none)) w'):
  KJ t0 D R G (listed.setIfInBounds i true) (a.put (D[i]?.getD none) v) w':=by
 subst hn;have hD2:=hD;unfold Cw at hD2;obtain⟨h1,h2⟩:=Bool.and_eq_true_iff.1 hD2;have hlt: ∀d,some d∈D->d<t0.size:=fun d hd=>by have:=aFF.1 h1 d (List.mem_filterMap.2 ⟨some d,hd,rfl⟩);simpa using this
 have hinj: ∀j,j<D.length->j≠i->(D[i]?.getD none).isSome=true->(D[i]?.getD none)≠(D[j]?.getD none):=fun j hj hne hs e=>by
  have h3:=aFF.1 (aFF.1 h2 i (List.mem_range.2 hi)) j (List.mem_range.2 hj);have e1:(i==j)=false:=(by simpa using fun e':i=j=>hne e'.symm);have e2:(D[i]?.getD none).isNone=false:=by
   cases hx:D[i]?.getD none with
   |none=>rw[hx] at hs;cases hs
   |some d=>rfl
  rw[e1,e2] at h3;simp[e] at h3
 have hls: ∀j,j≠i->(listed.setIfInBounds i true).getD j true=listed.getD j true:=fun j hne=>by rw[aDS,aDS,aGP,if_neg (fun e=>hne e.symm)]
 have hmem: ∀d,D[i]?.getD none=some d->some d∈D:=fun d hd=>by
  cases hx:D[i]? with
  |none=>rw[hx] at hd;cases hd
  |some o=>rw[hx] at hd;have hd:o=some d:=hd;rw[<-hd];exact aDC hx
 cases hd:D[i]?.getD none with
 |none=>
  rw[hd] at hr;refine⟨by rw[aGQ];exact h.ls,h.ts,h.ds,h.fx,hg,fun j hj hl=> ?_⟩
  by_cases e:j=i
  ·subst e;rw[hd];exact hr
  ·rw[hls j e] at hl;exact hk j hj e hl (h.done j hj hl)
 |some d=>
  rw[hd] at hr;have hdl:d<a.tmps.size:=by rw[h.ts];exact hlt d (hmem d hd)
  have hgt: ∀j,(a.put (some d) v).tmps.getD j undef=if d=j then v else a.tmps.getD j undef:=fun j=>FR hdl j
  refine⟨by rw[aGQ];exact h.ls,by show(a.tmps.setIfInBounds _ _).size=_;rw[aGQ];exact h.ts,h.ds,fun j hj=> ?_,hg,fun j hj hl=> ?_⟩
  ·rw[hgt,if_neg (fun e:d=j=>hj (by rw[<-e];exact hmem d hd))];exact h.fx j hj
  ·by_cases e:j=i
   ·subst e;rw[hd];show R _ _ ((a.put (some d) v).tmps.getD d undef) _;rw[hgt,if_pos rfl];exact hr
   ·rw[hls j e] at hl;have h4:=hk j hj e hl (h.done j hj hl);have h5:XN (a.put (some d) v) (D[j]?.getD none)=XN a (D[j]?.getD none):=by
     cases hx:D[j]?.getD none with
     |none=>rfl
     |some d'=>
      have hne:d≠d':=fun e'=>hinj j hj e (by rw[hd];rfl) (by rw[hd,hx,e'])
      show(a.put (some d) v).tmps.getD d' undef=a.tmps.getD d' undef;rw[hgt,if_neg hne]
    rw[h5];exact h4
theorem SC(f:Nat->Value): ∀(L:List Nat) (t:Array Value),(L.foldl (fun t d=>t.setIfInBounds d (f d)) t).size=t.size/\∀j,j<t.size->(L.foldl (fun t d=>t.setIfInBounds d (f d)) t).getD j undef=if j∈L then f j else t.getD j undef
 | [],t=>⟨rfl,fun j _=>by simp⟩
 |d::L,t=>by
  obtain⟨h1,h2⟩:=SC f L (t.setIfInBounds d (f d));rw[aGQ] at h1 h2;refine⟨h1,fun j hj=> ?_⟩;rw[List.foldl_cons,h2 j hj]
  by_cases hm:j∈L
  ·rw[if_pos hm,if_pos (aEK _ hm)]
  ·rw[if_neg hm]
   by_cases e:d=j
   ·subst e;rw[FR hj,if_pos rfl,if_pos (aFD ..)]
   ·rcases aCN d t.size with hd|hd
    ·rw[FR hd,if_neg e,if_neg (fun h=>by rcases aCJ.1 h with h|h;exact e h.symm;exact hm h)]
    ·rw[Array.setIfInBounds_eq_of_size_le (by omega),if_neg (fun h=>by rcases aCJ.1 h with h|h;exact e h.symm;exact hm h)]
theorem KJ.frame {t0:Array Value}{D:List (Option Nat)}{R:Array Bool->Nat->Value->World->Prop}{G:World->Prop}{listed:Array Bool}(h:KJ t0 D R G listed a w):
  a={tmps:=(D.filterMap id).foldl (fun t d=>t.setIfInBounds d (a.tmps.getD d undef)) t0,defers:=[]}:=by
 obtain⟨h1,h2⟩:=SC (fun d=>a.tmps.getD d undef) (D.filterMap id) t0;have e:a.tmps=(D.filterMap id).foldl (fun t d=>t.setIfInBounds d (a.tmps.getD d undef)) t0:=by
  apply Array.ext
  ·rw[h1];exact h.ts
  ·intro j hj1 hj2;have hj:j<t0.size:=by rw[<-h1];exact hj2
   have h3:=h2 j hj;rw[aDS,aGF hj2] at h3;simp only[Option.getD_some] at h3;rw[h3];have h4:a.tmps.getD j undef=a.tmps[j]:=by rw[aDS,aGF hj1];rfl
   by_cases hm:j∈D.filterMap id
   ·rw[if_pos hm,h4]
   ·rw[if_neg hm,<-h4];exact h.fx j fun hd=>hm (List.mem_filterMap.2 ⟨some j,hd,rfl⟩)
 have h5:=h.ds;obtain⟨tm,ds⟩:=a;dsimp only at e h5;subst h5;rw[<-e]
theorem KJ.start (t0:Array Value)(D:List (Option Nat))(R:Array Bool->Nat->Value->World->Prop)(G:World->Prop)(hg:G w):KJ t0 D R G (Array.replicate D.length false) ⟨t0,[]⟩ w:=
 ⟨by simp,rfl,rfl,fun _ _=>rfl,hg,fun i hi h=>by rw[aDS,Array.getElem?_replicate] at h;simp[hi] at h⟩
end
theorem K7.size {cs:Array Value}(h:K7 w F x cs):cs.size=11:=by
 obtain⟨nd,nv,mv,me,av,bv,Ap,cp,rfl,_⟩:=h;rfl
theorem Et: ∀(css:List (Array Value)) (k:Nat) (cs:Array Value),(∀c∈css,c.size=11)->css[k]? =some cs->∀(j:Nat) (u:Value),cs[j]? =some u->(css.flatMap (·.toList))[k*11+j]? =some u
 | [],k,cs,_,h,_,_,_=>by simp at h
 |c::css,0,cs,hs,h,j,u,hj=>by simp at h;subst h;have h1:=(Array.getElem?_eq_some_iff.1 hj).1;rw[aEU,Nat.zero_mul,Nat.zero_add,aDM (by simpa using h1)];simpa using hj
 |c::css,k+1,cs,hs,h,j,u,hj=>by have hc:c.toList.length=11:=(by rw[Array.length_toList];exact hs c (aFD ..));rw[aEU,aEE (by rw[hc];omega),hc,show(k+1)*11+j-11=k*11+j by omega];exact Et css k cs (fun c hc=>hs c (aEK _ hc)) (by simpa using h) j u hj
structure SX(w:World)(B:Nat)(P:Nat->Prop)(l:List Sc.It)(Al:Option Addr)(cl:Nat):Prop where
 ex: ∃css:List (Array Value),css.length=l.length/\w.ownsRow B 95 11 (.slice Al l.length cl) l.length (css.flatMap (·.toList))/\∀(k:Nat) (x:Sc.It) (cs:Array Value),l[k]? =some x->css[k]? =some cs->K7 w P x cs
 nr: ∀q,(aBX Al l.length cl).ownBlock=some q->¬P q
theorem SX.nil {B:Nat}{P:Nat->Prop}:SX w B P [] none 0:=
 ⟨⟨[],rfl,World.ownsRow_nil _ _ _ _,fun k x cs h=>by simp at h⟩,fun q h=>by simp[aCZ] at h⟩
section
variable{w w':World}{B:Nat}{P P':Nat->Prop}{l:List Sc.It}{Al:Option Addr}{cl:Nat}
theorem SX.step (h:SX w B P l Al cl)(hs:w.heap.size<=w'.heap.size)(hk: ∀x,P x->x<w.heap.size->w'.heap[x]? =w.heap[x]? /\P' x)(hr: ∀q,(aBX Al l.length cl).ownBlock=some q->w'.heap[q]? =w.heap[q]? /\¬P' q):SX w' B P' l Al cl:=by
 obtain⟨css,h1,h2,h3⟩:=h.ex;exact⟨⟨css,h1,aM h2 fun q hq=>(hr q hq).1,fun k x cs e1 e2=>(h3 k x cs e1 e2).keep hs hk⟩,fun q hq=>(hr q hq).2⟩
theorem SX.push (h:SX w B P l Al cl)(hlt: ∀b,P b->b<w.heap.size){cs:Array Value}(hx:K7 w P x cs){css:List (Array Value)}(hc:css.length=l.length)(hall: ∀(k:Nat) (x:Sc.It) (cs:Array Value),l[k]? =some x->css[k]? =some cs->K7 w P x cs)
  {g cap:Nat} (ho:w'.ownsRow B 95 11 (.slice (some ⟨g,0,none⟩) (l.length+1) cap) (l.length+1) (css.flatMap (·.toList)++cs.toList)) (hg:w.grownBy w' (aBX Al l.length cl).ownBlock) (hs:w.heap.size<=w'.heap.size) (hl:(aBX Al l.length cl).ownBlock=some g\/w.heap.size<=g):SX w' B P (l++[x]) (some ⟨g,0,none⟩) cap:=by
 have hk: ∀y,P y->y<w.heap.size->w'.heap[y]? =w.heap[y]? /\P y:=fun y hy hyl=>⟨hg.block y hyl fun e=>h.nr y e.symm hy,hy⟩
 refine⟨⟨css++[cs],by simp[hc],?_,fun k y c e1 e2=> ?_⟩,fun q hq hP=> ?_⟩
 ·rw[aBW,List.flatMap_append,List.flatMap_singleton];exact ho
 ·rcases aCN k l.length with hk'|hk'
  ·rw[aDM hk'] at e1;rw[aDM (by omega)] at e2;exact(hall k y c e1 e2).keep hs hk
  ·rw[aEE hk'] at e1;rw[aEE (by omega)] at e2;have hk0:k-l.length=0:=by have:=(aCD.1 e1).1;simpa using this
   rw[hk0] at e1;rw[hc,hk0] at e2;simp at e1 e2;subst e1 e2;exact hx.keep hs hk
 ·have:q=g:=(by simpa [aCZ] using hq.symm);subst this;rcases hl with e|hl
  ·exact h.nr q e hP
  ·have:=hlt q hP;omega
theorem SX.done (h:SX w B P l Al cl):Yc w (fun b=>P b\/(aBX Al l.length cl).ownBlock=some b) Al l:=fun hn=>by
 obtain⟨css,h1,h2,h3⟩:=h.ex;have hr:=Rd.rO h2;obtain⟨b,o,e,hb,hc⟩:=hr.2 hn;have hob:(aBX Al l.length cl).ownBlock=some b:=by obtain⟨g,cap,hv,_,_⟩:=h2.form hn;injection hv with e1 e2 e3;rw[e] at e1;injection e1 with e1;injection e1 with e1 e4;subst e1;rw[e];simp[aCZ]
 refine⟨b,o,e,.inr hob,hb,fun k x hx=> ?_⟩;have hk:=(aCD.1 hx).1;have hkc:css[k]? =some css[k]:=aBY (by omega);refine⟨css[k],(h3 k x _ hx hkc).keep (aBT _) fun y hy _=>⟨rfl,.inl hy⟩,fun j u hu=> ?_⟩;have h11: ∀c∈css,c.size=11:=fun c hc=>by obtain⟨i,hi,rfl⟩:=List.getElem_of_mem hc;exact(h3 i l[i] _ (aBY (by omega)) (aBY hi)).size
 rw[Nat.add_assoc];exact hc _ _ (Et css k _ h11 hkc j u hu)
end
end Go.Proofs.YtcjjfeephaddcaaGreatDoor
