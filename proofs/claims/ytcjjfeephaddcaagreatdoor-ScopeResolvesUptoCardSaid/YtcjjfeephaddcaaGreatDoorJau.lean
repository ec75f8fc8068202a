import Derived.Test.YtcjjfeephaddcaaGreatDoorJat
set_option linter.all false
open Go.IntKind renaming i64->aCQ
open Go.IntWalk renaming i64_in->aCV
open Go.Proofs.Tryz renaming prog->aBS
open Go.RowKit.Below renaming refl->aBU
open Go.Value renaming oneCell'->aCA
open Go.World renaming ownsRow_nil->aCW,size_alloc->aDD
open List renaming length_append->aBW,getElem?_eq_getElem->aBY,getElem?_eq_some_iff->aCD,length_map->aCE,append_nil->aCO,length_take->aCY,take_length->aDF,getElem?_map->aDO,length_filter_le->aED
open Nat renaming le_refl->aBT,le_trans->aBV,zero_le->aBZ
set_option maxHeartbeats 64000000
set_option maxRecDepth 100000
open Go.Proofs.Tryz
namespace Go.Proofs.YtcjjfeephaddcaaGreatDoor
open Go.RowKit Go.Maps
variable{p:Tr.PT}{a a0 b k:Nat}{l:List Tr.PT}{w:World}{F:Nat->Prop}{v:Value}
theorem Sc.Ba (h:Sc.gK p=true)(x:Int):Tr.rF Tr.vZ p x=x:=by
 cases p with
 |leaf k t a=>unfold Tr.rF;rw[Tr.yH];have hk:k=1\/k=2:=(by unfold Sc.gK at h;simpa using h);rw[if_neg (fun h=>h.2 hk)]
 |gap t a d=>cases h
 |branch k a l=>cases h
theorem Sc.IK: ∀(l:List Tr.PT) (x:Int),(∀p∈l,Sc.gK p=true)->Tr.mH Tr.vZ l x=x
 | [],x,_=>rfl
 |p::l,x,h=>by unfold Tr.mH;rw[Sc.Ba (h p (List.mem_cons_self ..)),Sc.IK l x fun q hq=>h q (List.mem_cons_of_mem _ hq)]
theorem Km{kk:Nat}{bl:List Tr.PT}{t:Bs}(hb: ∀p∈bl,Sc.gK p=true)(hn:Sc.gK (.leaf kk t a)=false):xN b (.branch k a0 (bl++[.leaf kk t a]))=((b+a:Nat):Int):=by
 have hk: ¬(kk=1\/kk=2):=by unfold Sc.gK at hn;intro e;rcases e with rfl|rfl<;>simp at hn
 have h1:Tr.AB (.branch k a0 (bl++[.leaf kk t a]))=(a:Int):=by unfold Tr.AB Tr.rF;rw[Tr.oV];have h2:Tr.vZ (.branch k a0 (bl++[.leaf kk t a])) (-1)= -1:=rfl;rw[h2,Sc.IK bl _ hb];unfold Tr.mH Tr.rF;rw[Tr.yH,if_pos ⟨by omega,hk⟩];rfl
 unfold xN;rw[h1,if_neg (by omega)];omega
theorem Sc.Kq (t:Bs)(s:Sc.Env)(m:Nat)(h:m<s.length):Sc.jG t (s.take (m+1)).reverse=if s[m].1=t then some s[m].2 else Sc.jG t (s.take m).reverse:=by
 rw[List.take_succ_eq_append_getElem h,List.reverse_append,List.reverse_singleton,List.singleton_append,Sc.uP]
theorem Sc.Ac {l:List Sc.It}{t:Bs}(h:Sc.bJ l t=some k): ∃y w,l[k]? =some y/\y.name=some w:=by
 unfold Sc.bJ at h;obtain⟨hk,h1,_⟩:=List.findIdx?_eq_some_iff_getElem.1 h;refine⟨l[k],?_⟩;unfold Sc.named at h1;cases hn:l[k].name with
 |none=>rw[hn] at h1;cases h1
 |some w=>exact⟨w,aBY hk,rfl⟩
theorem Sc.CU {W:Sc.Wk}{f:Nat}{l:List Sc.It}(h:W.items[f]? =some l):Sc.aT W f=l:=by
 unfold Sc.aT;rw[h];rfl
theorem KQ{w0:World}{wb:Nat}{A:Option Addr}{c:Nat}{fs:List Fl}{Ai:Option Addr}{ci:Nat}{W:Sc.Wk}{rv:Value}{us:List Sc.Us}(h:Rh w0 F wb A c fs Ai ci W)(hP:yU w0 w wb (.slice A fs.length c) rv (.slice Ai W.items.length ci) us)
  {x:Sc.It} {l:List Sc.It} (hl:W.items[x.file]? =some l) {a0 kk a:Nat} {bl:List Tr.PT} {t:Bs} {v:Value} (hn:nK w F x.base (.branch 18 a0 (bl++[.leaf kk t a])) v) (hbl: ∀p∈bl,Sc.gK p=true) (hnb:Sc.gK (.leaf kk t a)=false) (hbn:bl.length<=100000000)
  {An:Option Addr} {cn:Nat} {Aa:Option Addr} {ca:Nat} {s e:Sc.Env} (hs:Ml w An cn Aa ca s) (hse:Sc.tK s e) (hln:us.length<=1000000000) (hsl:s.length<=1000000000):
  Calls aBS 83 #[pZZ wb,kZZ (x.file:Int),v,.agg #[.slice An s.length cn,.slice Aa s.length ca]] w (Fs w0 w wb (.slice A fs.length c) rv (.slice Ai W.items.length ci) (us++[Sc.mQ W x e t a])):=by
 obtain⟨hd1,hb1⟩:=uS w 103 #[.slice An s.length cn,.slice Aa s.length ca];have hs1:=aDD w (.cells #[.slice An s.length cn,.slice Aa s.length ca] 103);obtain⟨bs,hbs⟩:=dC w.heap.size;rw[<-hbs] at hb1 hs1;have hn1:=hn.below hd1;have hfr:xN x.base (.branch 18 a0 (bl++[.leaf kk t a]))=((x.base+a:Nat):Int):=Km hbl hnb;obtain⟨g,rfl,hFg,Ak,m,vk,hQ,hm,hrow,IE⟩:=hn1;rw[hfr] at hQ;have HV0:aC (Sc.mQ W x e t a=match Sc.jG t e with
  |some oJ=>⟨x.file,x.base+a,6,x.file,oJ,0⟩
  |none=>Sc.XD W x t a):=rfl
 have HF0:aC (Sc.XD W x t a=match Sc.bJ (Sc.aT W x.file) t with
  |none=>⟨x.file,x.base+a,6, -1, -1,4⟩
  |some k=>
   match(Sc.aT W x.file)[k]? with
   |none=>⟨x.file,x.base+a,6, -1, -1,4⟩
   |some y=>
    if y.bH then⟨x.file,x.base+a,6,x.file,((y.name.map (·.at_)).getD 0:Nat),0⟩
    else⟨x.file,x.base+a,6,(Sc.bP W x.file k y).1,(Sc.bP W x.file k y).2.1,0⟩):=rfl
 generalize x.base+a=at_ at *;rw[<-hse t] at HV0;have hlen:(bl++[Tr.PT.leaf kk t a]).length=bl.length+1:=by simp
 obtain⟨u,hu,kX⟩:=IE.at_ (i:=bl.length) (by rw[hlen];omega);have hgu:(bl++[Tr.PT.leaf kk t a])[bl.length]'(by rw[hlen];omega)=.leaf kk t a:=by simp
 rw[hgu] at kX;obtain⟨qu,rfl,_,hQu⟩:=kX;have hkl:=IE.len;obtain⟨br,o,rfl,_,Te,hcc⟩:=hrow (by omega);have q0:=hcc _ _ hu;have qt:=hQu.cells.2.2.1;obtain⟨z0,z1,z2,z3,z6⟩:=hQ.cells;obtain⟨L,hL⟩:=dC ((bl++[Tr.PT.leaf kk t a]).length);rw[<-hL] at z3;have nn0:(0:Int)<=(bl.length:Int):=by omega
 have nn1:(bl.length:Int)<(L:Int):=by omega
 have cL:aCQ.wrap ((L:Int)-1)=(bl.length:Int):=by rw[aCV _ (by omega)];omega
 have cS:aCQ.wrap ((s.length:Int)-1)=(s.length:Int)-1:=aCV _ (by omega);have b0:=hb1.cell 0;have b1:=hb1.cell 1;simp at b0 b1;have Hp:=aB hP;have Hh:=aB h;have Hl:=aB hl;have Hs:=aB hs;have J5:=aB hln;have mr:=aB hsl;have Hb1:=aB hb1;have wL:=aB hd1;have J8:=aB hs1;have Fz:=aB hbs;clear hgu hlen IE hrow hcc hu hkl hfr hQ hQu hm hFg Te hL hse;generalize bl.length=n at *
 go_enter func83,ntmps83
 go_upto_region 1 with fail;rw[<-hbs];clear hbs hb1 hd1 hs1 hsl hln hs hl h hP hbl hnb;generalize w.alloc _=w1 at *
 go_quiet (fail)
 have nG:aC (Below w.heap.size w (w1.drewN nq)):=below_drewN wL.o _;have HB2:aC (aV (w1.drewN nq) bs 103 #[.slice An s.length cn,.slice Aa s.length ca]):=Hb1.o.drewN nq;have HS2:aC ((w1.drewN nq).heap.size=bs+1):=J8.o;have z6:(w1.drewN nq).cell? ⟨g,6,none⟩=some (vZZ at_):=z6;clear wL Hb1 J8 q0 qt z0 z1 z2 z3 b0 b1 nn0 nn1 cL;generalize w1.drewN nq=w2 at *;have hd3:Below w.heap.size w (w2.alloc (.cells #[kZZ (x.file:Int),vZZ at_,kZZ 6,kZZ (-1),kZZ (-1),kZZ 0] 101)):=nG.o.alloc nG.o.size _;have hU3:=aV.new w2 101 #[kZZ (x.file:Int),vZZ at_,kZZ 6,kZZ (-1),kZZ (-1),kZZ 0];have hB3:=HB2.o.alloc (.cells #[kZZ (x.file:Int),vZZ at_,kZZ 6,kZZ (-1),kZZ (-1),kZZ 0] 101);obtain⟨r,hr0⟩:=dC w2.heap.size;have Hr:aC (w.heap.size<=r):=by show _<=_;rw[hr0];exact nG.o.size
 rw[<-hr0] at hU3;simp only[Exit.then];go_upto_region 3 with fail;rw[<-hr0];clear hr0 HB2 HS2 z6 nG;generalize w2.alloc _=w3 at *;have hs3:=Hs.o.below hd3;have b0:=hB3.cell 0;have b1:=hB3.cell 1;simp at b0 b1;have Hu3:=aB hU3;have BQ:=aB hd3;have Hs3:=aB hs3;have HB3:=aB hB3;clear hB3 hU3 hd3 hs3;go_wp2_with fail
 go_loopg [10] s.length (fun k v wr=>wr=w3/\∃m:Nat,v=kZZ ((m:Int)-1)/\m<=s.length/\m<=k/\aC (Sc.jG t s.reverse=Sc.jG t (s.take m).reverse))
 case atStart=>exact⟨rfl,s.length,rfl,aBT _,aBT _,by show _=_;rw[aDF]⟩
 case round=>
  obtain⟨rfl,m,rfl,hm,hmk,HF⟩:=hrel;cases m with
  |succ m=>
   have hlt:m<s.length:=(by omega);have ir0:=iZ m;have ir1:=jJ m s.length;have cm:aCQ.wrap ((m:Int)-1)=(m:Int)-1:=aCV _ (by have:=mr.o;omega);rw[show((m+1:Nat):Int)-1=(m:Int) by omega];have qh:=HF.o;rw[Sc.Kq t s m hlt] at qh;have HF2:=aB qh;obtain⟨bn,on,rfl,_,_,hcn⟩:=Hs3.o.n.1 (by rw[aCE];omega);have n0:=hcn m (UI s[m]) (by rw[aDO,aBY hlt];rfl);have HPt:aC (∀w',Ml w' (some ⟨bn,on,none⟩) cn Aa ca s->∃ba oa,Aa=some ⟨ba,oa,none⟩/\w'.cell? ⟨ba,oa+m,none⟩=some (kZZ (s[m].2:Int))):=fun w' h=>(by obtain⟨ba,oa,e,_,_,hca⟩:=h.a.1 (by rw[aCE];omega);exact⟨ba,oa,e,hca m (WO s[m]) (by rw[aDO,aBY hlt];rfl)⟩);unfold UI at n0;generalize s[m].1=nt at *;generalize s[m].2=pt at *;have Hm:=aB hm;have Na:=aB hmk;clear HF qh hcn hm hmk hlt
   by_cases hT:nt=t
   ·subst hT;have HV:aC (Sc.mQ W x e nt a=⟨x.file,at_,6,x.file,pt,0⟩):=(by show _=_;rw[HV0.o,HF2.o,if_pos rfl]);obtain⟨⟨k0,k1,k2,k3,k4,k5⟩,y0,y1,y2,y3,y4,y5⟩:=aX Hu3.o;clear HF2 HV0 HF0 k0 k1 k2 k5 y0 y1 y2 y5;go_upto_region 8 with fail;have hk4:=aD.set (T:=[101]) (i:=3) (v:=kZZ (x.file:Int)) Hu3.o (by simp);have hs4:=Hs3.o.aG (by simp) hk4 (by decide);have hB4:=HB3.o.aG hk4 (by decide);clear k3 k4 y3 y4 b0 b1 n0 hk4;have hd4:=(BQ.o.setCell (p:=⟨r,3,none⟩) Hr.o (kZZ (x.file:Int)));have ja:aV (wr.setCell ⟨r,3,none⟩ (kZZ (x.file:Int))) r 101 #[kZZ (x.file:Int),vZZ at_,kZZ 6,kZZ (x.file:Int),kZZ (-1),kZZ 0]:=by have h1:=(Hu3.o.bD 3 (kZZ (x.file:Int)));simpa using h1
    generalize(wr.setCell _ _)=w4 at *;obtain⟨ba,oa,rfl,p0⟩:=HPt.o _ hs4;have b1:=hB4.cell 1;simp at b1;obtain⟨⟨k0,k1,k2,k3,k4,k5⟩,y0,y1,y2,y3,y4,y5⟩:=aX ja;clear k0 k1 k2 k3 k5 y0 y1 y2 y3 y5 hs4 hB4 HPt;have wK:=aB hd4;have mi:=aB ja;clear hd4 ja;go_upto_region 9 with fail;clear p0 k4 y4 b1;have hd5:=(wK.o.setCell (p:=⟨r,4,none⟩) Hr.o (vZZ pt));have j6:aV (w4.setCell ⟨r,4,none⟩ (vZZ pt)) r 101 #[kZZ (x.file:Int),vZZ at_,kZZ 6,kZZ (x.file:Int),vZZ pt,kZZ 0]:=by have h1:=(mi.o.bD 4 (vZZ pt));simpa using h1
    generalize(w4.setCell _ _)=w5 at *;have had:=gP (Hp.o.below hd5) (u:=⟨x.file,at_,6,x.file,pt,0⟩) J5.o;rw[show iT (⟨x.file,at_,6,x.file,pt,0⟩:Sc.Us)=#[kZZ (x.file:Int),vZZ at_,kZZ 6,kZZ (x.file:Int),vZZ pt,kZZ (0:Int)] from rfl] at had;obtain⟨⟨k0,k1,k2,k3,k4,k5⟩,_⟩:=aX j6;rw[<-HV.o] at had;have HK:=aB (aD.below (T:=[44,101]) hd5);have HZ:=aB hd5.size;clear hd5 j6 HV;go_wp2_with fail;refine had.mono ?_;clear had k0 k1 k2 k3 k4 k5;rintro e9 w9 ⟨rfl,BD,wH,AY⟩;go_wp2_with fail;go_end0;exact⟨rfl,BD,HK.o.trans wH,aBV HZ.o AY⟩
   ·have hne:(nt==t)=false:=(by simpa using hT);have HF3:aC (Sc.jG t s.reverse=Sc.jG t (s.take m).reverse):=(by show _=_;rw[HF2.o,if_neg hT]);clear hT HF2 HPt;go_wp2_with fail
    go_roundg m
    case rel=>exact⟨rfl,m,rfl,by have:=Hm.o;omega,aBT _,HF3⟩
    case measure=>have:=Na.o;omega
  |zero=>
   have HV1:aC (Sc.mQ W x e t a=Sc.XD W x t a):=(by show _=_;rw[HV0.o,HF.o];rfl);rw[show((0:Nat):Int)-1= -1 by omega];clear HF HV0 hm hmk b0 b1;have hr3:=Hh.o.at_ (Hp.o.below BQ.o);have htp:=uH hr3 Hl.o t;have HI:=aB (Sc.CU Hl.o);rw[HI.o] at HF0;go_wp2_with fail;refine htp.mono ?_;clear htp;rintro e4 w4 ⟨rfl,hd4⟩;have hr4:=hr3.below hd4;have ja:=Hu3.o.below hd4 Hu3.o.lt;have hd4:=BQ.o.trans (hd4.mono BQ.o.size);clear hr3 HI Hu3 BQ Hs3 HB3;cases hf:Sc.bJ l t with
   |none=>
    have HV:aC (Sc.mQ W x e t a=⟨x.file,at_,6, -1, -1,4⟩):=(by show _=_;rw[HV1.o,HF0.o,hf]);obtain⟨⟨k0,k1,k2,k3,k4,k5⟩,y0,y1,y2,y3,y4,y5⟩:=aX ja;have wK:=aB hd4;have mi:=aB ja;clear HV1 HF0 hr4 hf k0 k1 k2 k3 k4 y0 y1 y2 y3 y4 hd4 ja;unfold uM;go_upto_region 20 with fail;clear k5 y5;have hd5:=(wK.o.setCell (p:=⟨r,5,none⟩) Hr.o (kZZ 4));have j6:aV (w4.setCell ⟨r,5,none⟩ (kZZ 4)) r 101 #[kZZ (x.file:Int),vZZ at_,kZZ 6,kZZ (-1),kZZ (-1),kZZ 4]:=by have h1:=(mi.o.bD 5 (kZZ 4));simpa using h1
    generalize(w4.setCell _ _)=w5 at *;have had:=gP (Hp.o.below hd5) (u:=⟨x.file,at_,6, -1, -1,4⟩) J5.o;rw[show iT (⟨x.file,at_,6, -1, -1,4⟩:Sc.Us)=#[kZZ (x.file:Int),vZZ at_,kZZ 6,kZZ (-1:Int),kZZ (-1:Int),kZZ (4:Int)] from rfl] at had;obtain⟨⟨k0,k1,k2,k3,k4,k5⟩,_⟩:=aX j6;rw[<-HV.o] at had;have HK:=aB (aD.below (T:=[44,101]) hd5);have HZ:=aB hd5.size;clear hd5 j6 HV;go_wp2_with fail;refine had.mono ?_;clear had k0 k1 k2 k3 k4 k5;rintro e9 w9 ⟨rfl,BD,wH,AY⟩;go_wp2_with fail;go_end0;exact⟨rfl,BD,HK.o.trans wH,aBV HZ.o AY⟩
   |some k=>
    obtain⟨y,yn,hy,hyn⟩:=Sc.Ac hf;have hkl:=(aCD.1 hy).1;have hfl:=(aCD.1 Hl.o).1;have ff0:(0:Int)<=(x.file:Int):=(by omega);have ff1:(x.file:Int)<(W.items.length:Int):=(by omega);have kk0:=iZ k;have kk1:=jJ k l.length;have kk2: ¬(k:Int)<0:=(by omega);obtain⟨ro,oo,sA,sc,rfl,hs,hrow⟩:=hr4.file Hl.o;obtain⟨b,o2,rfl,FP,hbl,hc⟩:=hrow (by omega);obtain⟨cs,hi2,hcs⟩:=hc k y hy;obtain⟨pd,pn,pm,pe,pa,pb,Ap,cp,rfl,hnn, -, -, -, -, -, -⟩:=hi2.form;obtain⟨q0,q1,q2,q3,q4,q5,q6,q7,q8,q9,wF⟩:=mW hcs;have p2:=hr4.p2;have Hy:=aB hy;have Hyn:=aB hyn;have HV:aC (Sc.mQ W x e t a=if y.bH then⟨x.file,at_,6,x.file,((y.name.map (·.at_)).getD 0:Nat),0⟩
      else⟨x.file,at_,6,(Sc.bP W x.file k y).1,(Sc.bP W x.file k y).2.1,0⟩):=by show _=_;rw[HV1.o,HF0.o,hf];dsimp only;rw[hy]
    have HR4:=aB hr4;have wK:=aB hd4;have mi:=aB ja;have Hnn:=aB hnn;unfold uM;clear hf hy hyn hkl hfl hrow FP hbl hc hi2 hcs hr4 hd4 ja hnn HV1 HF0;cases hdf:y.bH with
    |true=>
     have Nh:aC (Sc.mQ W x e t a=⟨x.file,at_,6,x.file,(yn.at_:Int),0⟩):=(by show _=_;rw[HV.o,if_pos hdf,Hyn.o];rfl);rw[hdf] at q0;clear HV hdf Hnn;obtain⟨⟨k0,k1,k2,k3,k4,k5⟩,y0,y1,y2,y3,y4,y5⟩:=aX mi.o;clear k0 k1 k2 k4 k5 y0 y1 y2 y4 y5 q1 q2 q3 q4 q5 q6 q7 q8 q9 wF;go_upto_region 19 with fail;clear q0 p2 hs k3 y3;have hd5:=(wK.o.setCell (p:=⟨r,3,none⟩) Hr.o (kZZ (x.file:Int)));have j6:aV (w4.setCell ⟨r,3,none⟩ (kZZ (x.file:Int))) r 101 #[kZZ (x.file:Int),vZZ at_,kZZ 6,kZZ (x.file:Int),kZZ (-1),kZZ 0]:=by have h1:=(mi.o.bD 3 (kZZ (x.file:Int)));simpa using h1
     generalize(w4.setCell _ _)=w5 at *;have JL:=Hh.o.at_ (Hp.o.below hd5);obtain⟨ro5,oo5,sA5,sc5,e5,hs5,Ef⟩:=JL.file Hl.o;injection e5 with e5;injection e5 with e6 e7;subst e6 e7;obtain⟨b5,o5,rfl, -, -,ve⟩:=Ef (by omega);obtain⟨cs5,hi5,hcs5⟩:=ve k y Hy.o;obtain⟨pd5,pn5,pm5,pe5,pa5,pb5,Ap5,cp5,rfl,hnn, -, -, -, -, -, -⟩:=hi5.form;rw[Hyn.o] at hnn;obtain⟨gn,e8, -,hQn⟩:=hnn;injection e8 with e8;subst e8;have q3:=(mW hcs5).2.2.2.1;have p2:=JL.p2;have n6:=hQn.cells.2.2.2.2;obtain⟨⟨k0,k1,k2,k3,k4,k5⟩,y0,y1,y2,y3,y4,y5⟩:=aX j6;have IU:=aB hd5;have Hu5:=aB j6;clear k0 k1 k2 k3 k5 y0 y1 y2 y3 y5 Ef ve hi5 hcs5 hQn JL hd5 j6 HR4;go_upto_region 20 with fail;clear q3 p2 n6 k4 y4 hs5;have hd6:=(IU.o.setCell (p:=⟨r,4,none⟩) Hr.o (kZZ (yn.at_:Int)));have K5:aV (w5.setCell ⟨r,4,none⟩ (kZZ (yn.at_:Int))) r 101 #[kZZ (x.file:Int),vZZ at_,kZZ 6,kZZ (x.file:Int),kZZ (yn.at_:Int),kZZ 0]:=by have h1:=(Hu5.o.bD 4 (kZZ (yn.at_:Int)));simpa using h1
     generalize(w5.setCell _ _)=w6 at *;have had:=gP (Hp.o.below hd6) (u:=⟨x.file,at_,6,x.file,yn.at_,0⟩) J5.o;rw[show iT (⟨x.file,at_,6,x.file,yn.at_,0⟩:Sc.Us)=#[kZZ (x.file:Int),vZZ at_,kZZ 6,kZZ (x.file:Int),kZZ (yn.at_:Int),kZZ (0:Int)] from rfl] at had;obtain⟨⟨k0,k1,k2,k3,k4,k5⟩,_⟩:=aX K5;rw[<-Nh.o] at had;have HK:=aB (aD.below (T:=[44,101]) hd6);have HZ:=aB hd6.size;clear hd6 K5 Nh;go_wp2_with fail;refine had.mono ?_;clear had k0 k1 k2 k3 k4 k5;rintro e9 w9 ⟨rfl,BD,wH,AY⟩;go_wp2_with fail;go_end0;exact⟨rfl,BD,HK.o.trans wH,aBV HZ.o AY⟩
    |false=>
     have hst:=Sc.KT (by rw[Sc.CU Hl.o];exact Hy.o) hdf;have Nh:aC (Sc.mQ W x e t a=⟨x.file,at_,6,(Sc.bP W x.file k y).1,(Sc.bP W x.file k y).2.1,0⟩):=(by show _=_;rw[HV.o,if_neg (by rw[hdf];simp)]);rw[hdf] at q0;have ZE:=KR HR4.o Hh.o.many;have Hcm:aC (Sc.mM W<=1000000000):=(by have:=Sc.BL (W:=W);have:=Hh.o.many;show _<=_;omega);generalize Sc.bP W x.file k y=R at *;have kC:=aB hst;generalize Sc.mM W=CM at *;clear HV hdf hst Hnn q1 q2 q3 q4 q5 q6 q7 q8 q9 wF;go_wp2_with fail;refine ZE.mono ?_;clear ZE hs p2 q0;rintro e5 w5 ⟨rfl,hd5⟩;have JL:=HR4.o.below hd5;have hst:=BZ CM JL Hl.o Hy.o Hcm.o;rw[kC.o] at hst;have j6:=mi.o.below hd5 mi.o.lt;have hd5:=wK.o.trans (hd5.mono wK.o.size);clear HR4 mi wK JL;go_wp2_with fail;refine hst.mono ?_;clear hst;rintro e6 w6 ⟨rfl,hd6⟩;have K5:=j6.below hd6 j6.lt;have hd6:=hd5.trans (hd6.mono hd5.size);have Hd6:=aB hd6;have Hu6:=aB K5;obtain⟨⟨k0,k1,k2,k3,k4,k5⟩,y0,y1,y2,y3,y4,y5⟩:=aX K5;clear j6 hd5 K5 hd6 k0 k1 k2 k5 y0 y1 y2 y5;generalize R.1=RA at *;generalize R.2.1=RB at *;go_upto_region 20 with fail;clear k3 k4 y3 y4;have hd7:=((Hd6.o.setCell (p:=⟨r,3,none⟩) Hr.o (kZZ RA)).setCell (p:=⟨r,4,none⟩) Hr.o (kZZ RB));have Xv:aV ((w6.setCell ⟨r,3,none⟩ (kZZ RA)).setCell ⟨r,4,none⟩ (kZZ RB)) r 101 #[kZZ (x.file:Int),vZZ at_,kZZ 6,kZZ RA,kZZ RB,kZZ 0]:=by have h1:=((Hu6.o.bD 3 (kZZ RA)).bD 4 (kZZ RB));simpa using h1
     generalize((w6.setCell _ _).setCell _ _)=w7 at *;have had:=gP (Hp.o.below hd7) (u:=⟨x.file,at_,6,RA,RB,0⟩) J5.o;rw[show iT (⟨x.file,at_,6,RA,RB,0⟩:Sc.Us)=#[kZZ (x.file:Int),vZZ at_,kZZ 6,kZZ RA,kZZ RB,kZZ (0:Int)] from rfl] at had;obtain⟨⟨k0,k1,k2,k3,k4,k5⟩,_⟩:=aX Xv;rw[<-Nh.o] at had;have HK:=aB (aD.below (T:=[44,101]) hd7);have HZ:=aB hd7.size;clear hd7 Xv Nh;go_wp2_with fail;refine had.mono ?_;clear had k0 k1 k2 k3 k4 k5;rintro e9 w9 ⟨rfl,BD,wH,AY⟩;go_wp2_with fail;go_end0;exact⟨rfl,BD,HK.o.trans wH,aBV HZ.o AY⟩
open Go.RowKit
def ma(l:List (Option Sc.Wd))(w:World)(F:Nat->Prop)(e:Ending)(w':World):Prop:=
 ∃A c vs,e=.returned (.slice A l.length c)/\w'.ownsRow w.heap.size 89 1 (.slice A l.length c) l.length vs/\rY w' F l vs/\Below w.heap.size w w'
def Fq(b:Nat)(l:List Tr.PT)(w:World)(F:Nat->Prop)(e:Ending)(w':World):Prop:=
 ∃A c vs,e=.returned (.slice A l.length c)/\w'.ownsRow w.heap.size 89 1 (.slice A l.length c) l.length vs/\jY w' F b l vs/\Below w.heap.size w w'
theorem Sc.WY (b:Nat)(l:List Tr.PT)(i:Nat)(h:i<l.length):(Sc.bT (l.take (i+1))).map (Sc.kK b)=(Sc.bT (l.take i)).map (Sc.kK b)++((Sc.oN l[i]).toList.map (Sc.kK b)):=by
 rw[Sc.GV l i h,List.map_append]
theorem GL(hp:nK w F b (.branch k a l) v)(hl:l.length<=1000000000):
  Calls aBS 79 #[v] w (ma (Sc.bE b (.branch k a l)) w F):=by
 obtain⟨i0,ji,iW,jz1,iV⟩:=info_parts Bb;obtain⟨q,rfl,hFq,A,c,vs,hQ,hc,hrow,hps⟩:=hp;have Hl:=aB hl;have Hps:=aB hps;have oL:=aB hrow;have HQ:=aB hQ;clear hl hc hps hrow hQ hFq
 go_enter func79,ntmps79
 go_wp2_with fail
 go_loopg [3,4] l.length (fun m v u wr=> ∃(i:Nat) (Ao:Option Addr) (co:Nat) (pW:List Value),v=.slice Ao ((Sc.bT (l.take i)).map (Sc.kK b)).length co/\u=vZZ i/\i<=l.length/\l.length-i<=m/\wr.ownsRow w.heap.size 89 1 (.slice Ao ((Sc.bT (l.take i)).map (Sc.kK b)).length co) ((Sc.bT (l.take i)).map (Sc.kK b)).length pW/\rY w F ((Sc.bT (l.take i)).map (Sc.kK b)) pW/\Below w.heap.size w wr)
 case atStart=>exact⟨0,none,0,[],rfl,rfl,aBZ _,aBT _,aCW _ _ _ _,rfl,aBU _ _⟩
 case round=>
  obtain⟨i,Ao,co,pW,rfl,rfl,hi,hm,hown,hos,hd⟩:=hrel;have hQr:=HQ.o.keep (hd.block q HQ.o.lt);obtain⟨z0,z1,z2,z3,z6⟩:=hQr.cells;clear z0 z1 z2 z6 hQr
  by_cases hlt:i<l.length
  ·have GZ:=iZ i;have EB:=jJ i l.length;obtain⟨v,hv,hpv⟩:=Hps.o.at_ hlt;obtain⟨br,o,rfl,FP,hbl,hcc⟩:=oL.o (by have:=Hps.o.len;omega);have hcell:=hcc _ _ hv;have q0:=(hd.cell (p:=⟨br,o+i,none⟩) hbl).trans hcell;have HT:=aB (Sc.WY b l i hlt);have Hn:aC (((Sc.bT (l.take i)).map (Sc.kK b)).length<=1000000000):=(by have h1:((Sc.bT (l.take i)).map (Sc.kK b)).length<=(l.take i).length:=(by rw[aCE];exact Sc.lK _);rw[aCY] at h1;have:=Hl.o;show _<=_;omega);have c1:=uX i (by have:=Hl.o;omega);generalize l[i]=p at *;generalize hst:(Sc.bT (l.take i)).map (Sc.kK b)=st at *;have bZ:=aB hlt;have Hm:=aB hm;have hsz:=hd.size;have uT:=aB hsz;clear hst hv hcc hcell hbl hlt hm hi FP hsz;cases p with
   |leaf k t x=>
    by_cases hk:k=3
    ·subst hk;have HT2:aC ((Sc.bT (l.take (i+1))).map (Sc.kK b)=st++[Sc.U5 b (.leaf 3 t x)]):=HT;have hnm:=lJ (hpv.below hd);have hnd:=hpv.Qw;obtain⟨pp,vO⟩:=hnd.ptr;rw[vO] at hnm hnd;clear vO;obtain⟨g,rfl,_,BC⟩:=hpv;obtain⟨k0,k1,k2,_⟩:=(BC.keep (hd.block g BC.lt)).cells;clear BC;go_wp2_with fail;refine hnm.mono ?_;clear hnm k0 k1 k2;rintro e1 w1 ⟨rfl,rfl⟩;go_wp2_with (at_builtin;refine dF _ rfl _ _ 40 rfl w.heap.size 89 1 8 underlying40 ji iW jz1 iV rfl (by omega) rfl hown #[.pointer pp] rfl rfl (by simp[aCA]) Hn.o (by omega) uT.o ?_;intro A' c' w2 hown2 hd2 hg2);have nX:=hos.snoc hnd
     go_roundg (l.length-(i+1))
     case rel=>exact⟨i+1,A',c',_,by rw[HT2.o,aBW];rfl,by go_num,by have:=bZ.o;omega,aBT _,by rw[HT2.o,aBW];exact hown2,by rw[HT2.o];exact nX,hd.trans hd2⟩
     case measure=>have:=bZ.o;have:=Hm.o;omega
    ·have hk3:((k:Int)==(3:Int))=false:=(by simp;omega);have HT2:aC ((Sc.bT (l.take (i+1))).map (Sc.kK b)=st):=(by show _=_;rw[HT.o];have e:Sc.oN (.leaf k t x)=none:=if_neg hk;rw[e];simp);clear hk HT;obtain⟨g,rfl,_,BC⟩:=hpv;obtain⟨k0,k1,k2,_⟩:=(BC.keep (hd.block g BC.lt)).cells;clear BC;go_wp2_with fail
     go_roundg (l.length-(i+1))
     case rel=>exact⟨i+1,Ao,co,pW,by rw[HT2.o],by go_num,by have:=bZ.o;omega,aBT _,by rw[HT2.o];exact hown,by rw[HT2.o];exact hos,hd⟩
     case measure=>have:=bZ.o;have:=Hm.o;omega
   |gap t x d=>
    by_cases ht:t=Tr.lY
    ·subst ht;have HT2:aC ((Sc.bT (l.take (i+1))).map (Sc.kK b)=st++[Sc.U5 b (.gap Tr.lY x d)]):=HT;have hnm:=lJ (hpv.below hd);have hnd:=hpv.Qw;obtain⟨pp,vO⟩:=hnd.ptr;rw[vO] at hnm hnd;clear vO;unfold Tr.lY at *;obtain⟨g,rfl,_,BC⟩:=hpv;obtain⟨k0,k1,k2,_⟩:=(BC.keep (hd.block g BC.lt)).cells;clear BC;go_wp2_with fail;refine hnm.mono ?_;clear hnm k0 k1 k2;rintro e1 w1 ⟨rfl,rfl⟩;go_wp2_with (at_builtin;refine dF _ rfl _ _ 40 rfl w.heap.size 89 1 8 underlying40 ji iW jz1 iV rfl (by omega) rfl hown #[.pointer pp] rfl rfl (by simp[aCA]) Hn.o (by omega) uT.o ?_;intro A' c' w2 hown2 hd2 hg2);have nX:=hos.snoc hnd
     go_roundg (l.length-(i+1))
     case rel=>exact⟨i+1,A',c',_,by rw[HT2.o,aBW];rfl,by go_num,by have:=bZ.o;omega,aBT _,by rw[HT2.o,aBW];exact hown2,by rw[HT2.o];exact nX,hd.trans hd2⟩
     case measure=>have:=bZ.o;have:=Hm.o;omega
    ·have htf:(t== [110,97,109,101])=false:=(by unfold Tr.lY at ht;simpa using ht);have HT2:aC ((Sc.bT (l.take (i+1))).map (Sc.kK b)=st):=(by show _=_;rw[HT.o];have e:Sc.oN (.gap t x d)=none:=if_neg ht;rw[e];simp);clear ht HT;obtain⟨g,rfl,_,BC⟩:=hpv;obtain⟨k0,k1,k2,_⟩:=(BC.keep (hd.block g BC.lt)).cells;clear BC;go_wp2_with fail
     go_roundg (l.length-(i+1))
     case rel=>exact⟨i+1,Ao,co,pW,by rw[HT2.o],by go_num,by have:=bZ.o;omega,aBT _,by rw[HT2.o];exact hown,by rw[HT2.o];exact hos,hd⟩
     case measure=>have:=bZ.o;have:=Hm.o;omega
   |branch k x m=>
    have HT2:aC ((Sc.bT (l.take (i+1))).map (Sc.kK b)=st):=(by show _=_;rw[HT.o];simp[Sc.oN]);clear HT;obtain⟨g,rfl,_,Ak,ck,vk,BC,_⟩:=hpv;obtain⟨k0,k1,k2,_⟩:=(BC.keep (hd.block g BC.lt)).cells;clear BC
    by_cases h0:k=0
    ·subst h0;go_wp2_with fail
     go_roundg (l.length-(i+1))
     case rel=>exact⟨i+1,Ao,co,pW,by rw[HT2.o],by go_num,by have:=bZ.o;omega,aBT _,by rw[HT2.o];exact hown,by rw[HT2.o];exact hos,hd⟩
     case measure=>have:=bZ.o;have:=Hm.o;omega
    ·have n0:((k:Int)==(0:Int))=false:=by simp;omega
     by_cases h1:k=1
     ·subst h1;clear h0;go_wp2_with fail
      go_roundg (l.length-(i+1))
      case rel=>exact⟨i+1,Ao,co,pW,by rw[HT2.o],by go_num,by have:=bZ.o;omega,aBT _,by rw[HT2.o];exact hown,by rw[HT2.o];exact hos,hd⟩
      case measure=>have:=bZ.o;have:=Hm.o;omega
     ·have n1:((k:Int)==(1:Int))=false:=(by simp;omega);clear h0 h1;go_wp2_with fail
      go_roundg (l.length-(i+1))
      case rel=>exact⟨i+1,Ao,co,pW,by rw[HT2.o],by go_num,by have:=bZ.o;omega,aBT _,by rw[HT2.o];exact hown,by rw[HT2.o];exact hos,hd⟩
      case measure=>have:=bZ.o;have:=Hm.o;omega
  ·obtain rfl:i=l.length:=(by omega);have i1:=lC l.length;have i2:=kZ l.length;rw[aDF] at hown hos⊢;generalize hst:(Sc.bT l).map (Sc.kK b)=st at *;clear hlt hi hm;go_wp2_with fail;go_ret;exact⟨Ao,co,pW,by rw[<-hst];rfl,by rw[<-hst] at hown;exact hown,by rw[<-hst] at hos;exact hos.below hd,hd⟩
theorem nM(hp:nK w F b (.branch k a l) v)(hl:l.length<=1000000000):
  Calls aBS 60 #[v] w (Fq b (Sc.aI l) w F):=by
 obtain⟨i0,ji,iW,jz1,iV⟩:=info_parts Bb;obtain⟨q,rfl,hFq,A,c,vs,hQ,hc,hrow,hps⟩:=hp;have Hl:=aB hl;have Hps:=aB hps;have oL:=aB hrow;have HQ:=aB hQ;clear hl hc hps hrow hQ hFq
 go_enter func60,ntmps60
 go_wp2_with fail
 go_loopg [3,4] l.length (fun m v u wr=> ∃(i:Nat) (Ao:Option Addr) (co:Nat) (pW:List Value),v=.slice Ao (Sc.aI (l.take i)).length co/\u=vZZ i/\i<=l.length/\l.length-i<=m/\wr.ownsRow w.heap.size 89 1 (.slice Ao (Sc.aI (l.take i)).length co) (Sc.aI (l.take i)).length pW/\jY w F b (Sc.aI (l.take i)) pW/\Below w.heap.size w wr)
 case atStart=>exact⟨0,none,0,[],rfl,rfl,aBZ _,aBT _,aCW _ _ _ _,rfl,aBU _ _⟩
 case round=>
  obtain⟨i,Ao,co,pW,rfl,rfl,hi,hm,hown,hos,hd⟩:=hrel;have hQr:=HQ.o.keep (hd.block q HQ.o.lt);obtain⟨z0,z1,z2,z3,z6⟩:=hQr.cells;clear z0 z1 z2 z6 hQr
  by_cases hlt:i<l.length
  ·have GZ:=iZ i;have EB:=jJ i l.length;obtain⟨v,hv,hpv⟩:=Hps.o.at_ hlt;obtain⟨br,o,rfl,FP,hbl,hcc⟩:=oL.o (by have:=Hps.o.len;omega);have hcell:=hcc _ _ hv;have q0:=(hd.cell (p:=⟨br,o+i,none⟩) hbl).trans hcell;have HT:=aB (Sc.GK l i hlt);have Hn:aC ((Sc.aI (l.take i)).length<=1000000000):=(by have h1:(Sc.aI (l.take i)).length<=(l.take i).length:=aED _ _;rw[aCY] at h1;have:=Hl.o;show _<=_;omega);have c1:=uX i (by have:=Hl.o;omega);generalize l[i]=p at *;generalize hst:Sc.aI (l.take i)=st at *;have bZ:=aB hlt;have Hm:=aB hm;have hsz:=hd.size;have uT:=aB hsz;clear hst hv hcc hcell hbl hlt hm hi FP hsz;cases p with
   |leaf k t x=>
    have vO:=hpv;obtain⟨g,rfl,_,BC⟩:=hpv;obtain⟨k0,k1,k2,_⟩:=(BC.keep (hd.block g BC.lt)).cells;clear BC;have HT:aC (Sc.aI (l.take (i+1))=if(k==1||k==2)then st else st++[.leaf k t x]):=HT
    by_cases h1:k=1
    ·subst h1;have HT2:aC (Sc.aI (l.take (i+1))=st):=HT;go_wp2_with fail
     go_roundg (l.length-(i+1))
     case rel=>exact⟨i+1,Ao,co,pW,by rw[HT2.o],by go_num,by have:=bZ.o;omega,aBT _,by rw[HT2.o];exact hown,by rw[HT2.o];exact hos,hd⟩
     case measure=>have:=bZ.o;have:=Hm.o;omega
    ·have n1:((k:Int) !=(1:Int))=true:=by simp;omega
     by_cases h2:k=2
     ·subst h2;have HT2:aC (Sc.aI (l.take (i+1))=st):=HT;clear h1;go_wp2_with fail
      go_roundg (l.length-(i+1))
      case rel=>exact⟨i+1,Ao,co,pW,by rw[HT2.o],by go_num,by have:=bZ.o;omega,aBT _,by rw[HT2.o];exact hown,by rw[HT2.o];exact hos,hd⟩
      case measure=>have:=bZ.o;have:=Hm.o;omega
     ·have n2:((k:Int) !=(2:Int))=true:=(by simp;omega);have HT2:aC (Sc.aI (l.take (i+1))=st++[.leaf k t x]):=(by show _=_;rw[HT.o,if_neg (by simp[h1,h2])]);clear h1 h2 HT;go_wp2_with (at_builtin;refine dF _ rfl _ _ 40 rfl w.heap.size 89 1 8 underlying40 ji iW jz1 iV rfl (by omega) rfl hown #[pZZ g] rfl rfl (by simp[aCA]) Hn.o (by omega) uT.o ?_;intro A' c' w2 hown2 hd2 hg2);have nX:=hos.snoc vO
      go_roundg (l.length-(i+1))
      case rel=>exact⟨i+1,A',c',_,by rw[HT2.o,aBW];rfl,by go_num,by have:=bZ.o;omega,aBT _,by rw[HT2.o,aBW];exact hown2,by rw[HT2.o];exact nX,hd.trans hd2⟩
      case measure=>have:=bZ.o;have:=Hm.o;omega
   |gap t x d=>
    have vO:=hpv;obtain⟨g,rfl,_,BC⟩:=hpv;obtain⟨k0,k1,k2,_⟩:=(BC.keep (hd.block g BC.lt)).cells;clear BC;have HT2:aC (Sc.aI (l.take (i+1))=st++[.gap t x d]):=HT;clear HT;go_wp2_with (at_builtin;refine dF _ rfl _ _ 40 rfl w.heap.size 89 1 8 underlying40 ji iW jz1 iV rfl (by omega) rfl hown #[pZZ g] rfl rfl (by simp[aCA]) Hn.o (by omega) uT.o ?_;intro A' c' w2 hown2 hd2 hg2);have nX:=hos.snoc vO
    go_roundg (l.length-(i+1))
    case rel=>exact⟨i+1,A',c',_,by rw[HT2.o,aBW];rfl,by go_num,by have:=bZ.o;omega,aBT _,by rw[HT2.o,aBW];exact hown2,by rw[HT2.o];exact nX,hd.trans hd2⟩
    case measure=>have:=bZ.o;have:=Hm.o;omega
   |branch k x m=>
    have vO:=hpv;obtain⟨g,rfl,_,Ak,ck,vk,BC,_⟩:=hpv;obtain⟨k0,k1,k2,_⟩:=(BC.keep (hd.block g BC.lt)).cells;clear BC;have HT2:aC (Sc.aI (l.take (i+1))=st++[.branch k x m]):=HT;clear HT
    by_cases h0:k=0
    ·subst h0;go_wp2_with (at_builtin;refine dF _ rfl _ _ 40 rfl w.heap.size 89 1 8 underlying40 ji iW jz1 iV rfl (by omega) rfl hown #[pZZ g] rfl rfl (by simp[aCA]) Hn.o (by omega) uT.o ?_;intro A' c' w2 hown2 hd2 hg2);have nX:=hos.snoc vO
     go_roundg (l.length-(i+1))
     case rel=>exact⟨i+1,A',c',_,by rw[HT2.o,aBW];rfl,by go_num,by have:=bZ.o;omega,aBT _,by rw[HT2.o,aBW];exact hown2,by rw[HT2.o];exact nX,hd.trans hd2⟩
     case measure=>have:=bZ.o;have:=Hm.o;omega
    ·have n0:((k:Int) !=(0:Int))=true:=(by simp;omega);clear h0;go_wp2_with (at_builtin;refine dF _ rfl _ _ 40 rfl w.heap.size 89 1 8 underlying40 ji iW jz1 iV rfl (by omega) rfl hown #[pZZ g] rfl rfl (by simp[aCA]) Hn.o (by omega) uT.o ?_;intro A' c' w2 hown2 hd2 hg2);have nX:=hos.snoc vO
     go_roundg (l.length-(i+1))
     case rel=>exact⟨i+1,A',c',_,by rw[HT2.o,aBW];rfl,by go_num,by have:=bZ.o;omega,aBT _,by rw[HT2.o,aBW];exact hown2,by rw[HT2.o];exact nX,hd.trans hd2⟩
     case measure=>have:=bZ.o;have:=Hm.o;omega
  ·obtain rfl:i=l.length:=(by omega);have i1:=lC l.length;have i2:=kZ l.length;rw[aDF] at hown hos⊢;generalize hst:Sc.aI l=st at *;clear hlt hi hm;go_wp2_with fail;go_ret;exact⟨Ao,co,pW,rfl,hown,hos.below hd,hd⟩
theorem Tr.xQ (P:Tr.PT->Bool): ∀l:List Tr.PT,Tr.eB (l.filter P)<=Tr.eB l
 | []=>aBT _
 |p::l=>by
  rw[List.filter_cons];have h:=Tr.xQ P l;split
  ·unfold Tr.eB;omega
  ·rw[Tr.eB];omega
theorem Tr.M4: ∀(l:List Tr.PT),Tr.wM l->∀p∈l,Tr.Nj p
 | [],_,p,h=>by cases h
 |q::l,h,p,hp=>by
  unfold Tr.wM at h;rcases List.mem_cons.1 hp with rfl|hp
  ·exact h.1
  ·exact Tr.M4 l h.2 p hp
structure zI(p:Tr.PT):Prop where
 gr:Sc.xM p
 wf:Tr.Nj p
 cnt:Tr.eP p<=1000000
 nl:Sc.xD p=false
 n6:Sc.kindOf p≠6
theorem zI.kids (h:zI (.branch k a l)):2<=k/\l.length<=1000000/\Tr.eB l<Tr.eP (.branch k a l)/\Tr.eB l<=1000000/\Sc.ze k l:=by
 have h1:=h.wf;have h2:=h.gr;have h3:=h.cnt;unfold Tr.Nj at h1;unfold Sc.xM at h2;unfold Tr.eP at h3;have h4:=Tr.yT l;refine⟨h1.1,by omega,by rw[Tr.eP];omega,by omega,h2.1⟩
theorem zI.kid (h:zI (.branch k a l)){q:Tr.PT}(hq:q∈l)(hl:Sc.xD q=false)(h6:Sc.kindOf q≠6):zI q:=by
 have h1:=h.wf;have h2:=h.gr;have h3:=h.kids;unfold Tr.Nj at h1;unfold Sc.xM at h2;exact⟨(Sc.DI l).1 h2.2 q hq,Tr.M4 l h1.2.2 q hq,by have:=Tr.oF hq;omega,hl,h6⟩
theorem Sc.gN {q:Tr.PT}(h:q∈Sc.aI l):q∈l:=(List.mem_filter.1 h).1
theorem Sc.Ez (h:Sc.bA p=true):Sc.xD p=false:=by
 cases p with
 |leaf k t a=>cases h
 |gap t a d=>rfl
 |branch k a l=>rfl
section
variable{w0:World}{F:Nat->Prop}{wb:Nat}{A:Option Addr}{c:Nat}{fs:List Fl}{Ai:Option Addr}{ci:Nat}{W:Sc.Wk}{rv:Value}{x:Sc.It}
def Mo(w0:World)(F:Nat->Prop)(wb:Nat)(A:Option Addr)(c:Nat)(fs:List Fl)(Ai:Option Addr)(ci:Nat)(W:Sc.Wk)(rv:Value)(x:Sc.It)(p:Tr.PT):Prop:=
 ∀(w:World) (us:List Sc.Us) (s e:Sc.Env) (An:Option Addr) (cn:Nat) (Aa:Option Addr) (ca:Nat) (v:Value),yU w0 w wb (.slice A fs.length c) rv (.slice Ai W.items.length ci) us->nK w F x.base p v->Ml w An cn Aa ca s->Sc.tK s e->(us++Sc.dG W x e p).length+1000000<=1000000000->s.length+Tr.eP p+1000000<=1000000000->
  Calls aBS 42 #[pZZ wb,kZZ (x.file:Int),v,.agg #[.slice An s.length cn,.slice Aa s.length ca]] w (Fs w0 w wb (.slice A fs.length c) rv (.slice Ai W.items.length ci) (us++Sc.dG W x e p))
theorem Im(h:Rh w0 F wb A c fs Ai ci W){l:List Sc.It}(hl:W.items[x.file]? =some l){kk:Nat}{bl:List Tr.PT}{t:Bs}(hok:zI (.branch 18 a0 (bl++[.leaf kk t a])))(hbl: ∀p∈bl,Sc.gK p=true)(hnb:Sc.gK (.leaf kk t a)=false):
  Mo w0 F wb A c fs Ai ci W rv x (.branch 18 a0 (bl++[.leaf kk t a])):=by
 have Hl:=aB hl;have Xc:=aB hbl;have Hnb:=aB hnb;have Hbn:aC (bl.length<=100000000):=by have:=hok.kids.2.1;rw[aBW] at this;show _<=_;omega
 clear hl hbl hnb;intro w us s e An cn Aa ca v hP hv hs hse WM hls;have Hw0:aC (w0.heap.size<=w.heap.size):=hP.size;obtain⟨hd1,hb1⟩:=uS w 103 #[.slice An s.length cn,.slice Aa s.length ca];have hs1:=aDD w (.cells #[.slice An s.length cn,.slice Aa s.length ca] 103);obtain⟨bs,hbs⟩:=dC w.heap.size;rw[<-hbs] at hb1 hs1;have Hv:=aB hv;have Hp:=aB hP;have Hs:=aB hs;have Ye:=aB hse;have Fv:=aB WM;have Nw:=aB hls;have Hh:=aB h;have Yf:=aB hok;have Fz:aC (w.heap.size<=bs):=by show _<=_;rw[hbs];exact aBT _
 have hv1:=hv.below hd1;obtain⟨pv,rfl⟩:=hv.form;have IA:=nM hv1 (by have:=hok.kids.2.1;omega);have wL:=aB hd1;have J8:=aB hs1;have Hb1:=aB hb1;clear hv1 hv hP hs hse WM hls hd1 hs1 hb1 h hok
 go_enter func42,ntmps42
 go_upto_region 1 with fail;rw[<-hbs];clear hbs;generalize w.alloc _=w1 at *;go_wp2_with fail;refine IA.mono ?_;clear IA;rintro e2 w2 ⟨Ap,cp,pvs,rfl,hown2,vN,hd2⟩;have nG:=aB (wL.o.trans (hd2.mono wL.o.size));have Hb2:=aB (Hb1.o.below hd2 Hb1.o.lt);have Wx:=aB ((Hs.o.below nG.o));have Mw:=aB (Hp.o.below nG.o);have hv2:=Hv.o.below nG.o;have Hlen:=aB vN.len;have oL:=aB (bY hown2 (fun _=>True) fun _ _=>trivial);clear hown2 hd2 wL J8 Hb1;have HW:aC (Sc.dG W x e (.branch 18 a0 (bl++[.leaf kk t a]))=[Sc.mQ W x e t a]):=Sc.Ol Xc.o Hnb.o;have hva:=KQ Hh.o Mw.o Hl.o hv2 Xc.o Hnb.o Hbn.o Wx.o Ye.o (by have:=Fv.o;rw[aBW] at this;omega) (by have:=Nw.o;omega);rw[<-HW.o] at hva;obtain⟨g,e0,_,Ak,m,vk,hQ,_⟩:=hv2;cases e0;obtain⟨z0,_⟩:=hQ.cells;have b0:=Hb2.o.cell 0;have b1:=Hb2.o.cell 1;simp at b0 b1;clear hQ vN oL Hlen HW;generalize(Sc.aI (bl++[.leaf kk t a])).length=n at *;generalize us++Sc.dG W x e (.branch 18 a0 (bl++[.leaf kk t a]))=u2 at *;go_wp2_with fail;refine hva.mono ?_;clear hva z0 b0 b1;rintro e3 w3 ⟨rfl,hP3,hK3,hz3⟩;go_wp2_with fail;go_end0;exact⟨rfl,hP3,(aD.below nG.o).trans hK3,aBV nG.o.size hz3⟩
end
theorem Qc.aG {T:List TypeId}{w':World}{g tok m c:Nat}{t:Bs}{A:Option Addr}{f:Int}(h:Qc w g k tok t A m c f)(hk:aD T w w')(ht:93∉T):Qc w' g k tok t A m c f:=by
 obtain⟨a,e,u,d,hB⟩:=h;exact⟨a,e,u,d,hB.aG hk ht⟩
structure WU(w:World)(br o bs pv:Nat)(An:Option Addr)(n cn:Nat)(Aa:Option Addr)(ca:Nat):Prop where
 row: ∃cs fr,w.heap[br]? =some (.cells cs 89 fr)
 cell:w.cell? ⟨br,o,none⟩=some (pZZ pv)
 box:aV w bs 103 #[.slice An n cn,.slice Aa n ca]
def qi(br o bs pv:Nat)(An:Option Addr)(n cn:Nat)(Aa:Option Addr)(ca:Nat)(w:World):Prop:=w.cell? ⟨br,o,none⟩=some (pZZ pv)/\w.cell? ⟨bs,0,none⟩=some (.slice An n cn)/\w.cell? ⟨bs,1,none⟩=some (.slice Aa n ca)
section
variable{w w':World}{br o bs pv:Nat}{An:Option Addr}{n cn:Nat}{Aa:Option Addr}{ca:Nat}
theorem WU.s (h:WU w br o bs pv An n cn Aa ca):qi br o bs pv An n cn Aa ca w:=⟨h.cell,h.box.cell 0,h.box.cell 1⟩
theorem WU.drew (h:WU w br o bs pv An n cn Aa ca):WU w.drew br o bs pv An n cn Aa ca:=⟨h.row,h.cell,h.box⟩
theorem WU.aG {T:List TypeId}(h:WU w br o bs pv An n cn Aa ca)(hk:aD T w w')(ht:89∉T/\103∉T):WU w' br o bs pv An n cn Aa ca:=by
 obtain⟨⟨cs,fr,hr⟩,hc,hB⟩:=h;have hr':=hk br cs _ fr hr ht.1;exact⟨⟨cs,fr,hr'⟩,(World.cell?_of_block (w:=w) (a:=⟨br,o,none⟩) (hr'.trans hr.symm)).trans hc,hB.aG hk ht.2⟩
theorem WU.of {Ap:Option Addr}{vs:List Value}{m cp i:Nat}(h:m<=cp/\fP w (fun _=>True) Ap vs/\∀br o,Ap=some ⟨br,o,none⟩->0<m->∃cs fr,w.heap[br]? =some (.cells cs 89 fr))(hm:vs.length=m)(hB:aV w bs 103 #[.slice An n cn,.slice Aa n ca])(hv:vs[i]? =some (pZZ pv)):
  ∃br o,Ap=some ⟨br,o,none⟩/\WU w br (o+i) bs pv An n cn Aa ca:=by
 have hi:=(aCD.1 hv).1;obtain⟨br,o,e,_,_,hc⟩:=h.2.1 (by omega);exact⟨br,o,e,h.2.2 br o e (by omega),hc i _ hv,hB⟩
end
section
variable{w0:World}{F:Nat->Prop}{wb:Nat}{A:Option Addr}{c:Nat}{fs:List Fl}{Ai:Option Addr}{ci:Nat}{W:Sc.Wk}{rv:Value}{x:Sc.It}
theorem Rh.move (h:Rh w0 F wb A c fs Ai ci W){w':World}{fv rv iv fv' rv' iv':Value}{us Yr:List Sc.Us}(hP:yU w0 w wb fv rv iv us)(hP':yU w0 w' wb fv' rv' iv' Yr)(hs:w.heap.size<=w'.heap.size)(hq:nK w F b p v):nK w' F b p v:=
 nK.keep hs (fun y hy _=>⟨((h.same hP' y hy (h.ok y hy).1).1).trans (h.same hP y hy (h.ok y hy).1).1.symm,hy⟩) _ _ hq
theorem Q0{t:Bs}{d:Bool}(hp:nK w F b (.gap t a d) v):Calls aBS 60 #[v] w (Fq b [] w F):=by
 obtain⟨q,rfl,_,hQ⟩:=hp;obtain⟨z0,z1,z2,z3,z6⟩:=hQ.cells;clear z0 z1 z2 z6 hQ
 go_enter func60,ntmps60
 go_wp2_with fail
 go_loopg [3,4] 0 (fun m v u wr=>v=nZZ/\u=kZZ 0/\wr=w)
 case atStart=>exact⟨rfl,rfl,rfl⟩
 case round=>obtain⟨rfl,rfl,rfl⟩:=hrel;go_wp2_with fail;go_ret;exact⟨none,0,[],rfl,aCW _ _ _ _,rfl,aBU _ _⟩
theorem Ip(h:Rh w0 F wb A c fs Ai ci W){t:Bs}{d:Bool}(hok:zI (.gap t a0 d)):Mo w0 F wb A c fs Ai ci W rv x (.gap t a0 d):=by
 intro w us s e An cn Aa ca v hP hv hs hse WM hls;have Hw0:aC (w0.heap.size<=w.heap.size):=hP.size;obtain⟨hd1,hb1⟩:=uS w 103 #[.slice An s.length cn,.slice Aa s.length ca];have hs1:=aDD w (.cells #[.slice An s.length cn,.slice Aa s.length ca] 103);obtain⟨bs,hbs⟩:=dC w.heap.size;rw[<-hbs] at hb1 hs1;have Hv:=aB hv;have Hp:=aB hP;have Hs:=aB hs;have Ye:=aB hse;have Fv:=aB WM;have Nw:=aB hls;have Hh:=aB h;have Yf:=aB hok;have Fz:aC (w.heap.size<=bs):=by show _<=_;rw[hbs];exact aBT _
 have hv1:=hv.below hd1;obtain⟨pv,rfl⟩:=hv.form;have IA:=Q0 hv1;have wL:=aB hd1;have J8:=aB hs1;have Hb1:=aB hb1;clear hv1 hv hP hs hse WM hls hd1 hs1 hb1 h hok
 go_enter func42,ntmps42
 go_upto_region 1 with fail;rw[<-hbs];clear hbs;generalize w.alloc _=w1 at *;go_wp2_with fail;refine IA.mono ?_;clear IA;rintro e2 w2 ⟨Ap,cp,pvs,rfl,hown2,vN,hd2⟩;have nG:=aB (wL.o.trans (hd2.mono wL.o.size));have Hb2:=aB (Hb1.o.below hd2 Hb1.o.lt);have Wx:=aB ((Hs.o.below nG.o));have Mw:=aB (Hp.o.below nG.o);have hv2:=Hv.o.below nG.o;have Hlen:=aB vN.len;have oL:=aB (bY hown2 (fun _=>True) fun _ _=>trivial);clear hown2 hd2 wL J8 Hb1;have HW:aC (Sc.dG W x e (.gap t a0 d)=[]):=by show _=_;rw[Sc.dG]
 obtain⟨g,e0,_,hQ⟩:=hv2;cases e0;obtain⟨z0,_⟩:=hQ.cells;clear hQ vN oL Hlen;go_wp2_with fail
 go_loopg [13] 0 (fun m v wr=>v=kZZ 0/\wr=w2)
 case atStart=>exact⟨rfl,rfl⟩
 case round=>obtain⟨rfl,rfl⟩:=hrel;clear z0;go_wp2_with fail;go_end0;exact⟨rfl,by rw[HW.o,aCO];exact Mw.o,aD.below nG.o,nG.o.size⟩
theorem R8(h:Rh w0 F wb A c fs Ai ci W)(hok:zI (.branch k a0 l))(h7:k≠7)(h9:k≠9)(h18:k≠18)(ih: ∀q∈l,zI q->Mo w0 F wb A c fs Ai ci W rv x q):
  Mo w0 F wb A c fs Ai ci W rv x (.branch k a0 l):=by
 have n7:((k:Int)==(7:Int))=false:=by simp;omega
 have n9:((k:Int)==(9:Int))=false:=by simp;omega
 have n18:((k:Int)==(18:Int))=false:=by simp;omega
 have HW0:aC (∀e,Sc.dG W x e (.branch k a0 l)=Sc.bX W x e e (Sc.aI l)):=fun e=>Sc.Gm h7 h9 h18
 have HIH:aC (∀(i:Nat) (hi:i<(Sc.aI l).length),Sc.kindOf (Sc.aI l)[i]≠6/\(∀k2 a2 m,(Sc.aI l)[i]=.branch k2 a2 m->2<=k2/\Tr.eP (.branch k2 a2 m)<Tr.eP (.branch k a0 l)/\Mo w0 F wb A c fs Ai ci W rv x (.branch k2 a2 m))):=fun i hi=>by have hm:(Sc.aI l)[i]∈l:=Sc.gN (List.getElem_mem hi);have h6:=hok.kids.2.2.2.2.Zy h9 _ hm;refine⟨h6,fun k2 a2 m e=> ?_⟩;rw[e] at hm h6;have hk:=hok.kid hm rfl h6;exact⟨hk.kids.1,by have:=Tr.oF hm;have:=hok.kids.2.2.1;omega,ih _ hm hk⟩
 clear h7 h9 h18 ih;intro w us s e An cn Aa ca v hP hv hs hse WM hls;have Hw0:aC (w0.heap.size<=w.heap.size):=hP.size;obtain⟨hd1,hb1⟩:=uS w 103 #[.slice An s.length cn,.slice Aa s.length ca];have hs1:=aDD w (.cells #[.slice An s.length cn,.slice Aa s.length ca] 103);obtain⟨bs,hbs⟩:=dC w.heap.size;rw[<-hbs] at hb1 hs1;have Hv:=aB hv;have Hp:=aB hP;have Hs:=aB hs;have Ye:=aB hse;have Fv:=aB WM;have Nw:=aB hls;have Hh:=aB h;have Yf:=aB hok;have Fz:aC (w.heap.size<=bs):=by show _<=_;rw[hbs];exact aBT _
 have hv1:=hv.below hd1;obtain⟨pv,rfl⟩:=hv.form;have IA:=nM hv1 (by have:=hok.kids.2.1;omega);have wL:=aB hd1;have J8:=aB hs1;have Hb1:=aB hb1;clear hv1 hv hP hs hse WM hls hd1 hs1 hb1 h hok
 go_enter func42,ntmps42
 go_upto_region 1 with fail;rw[<-hbs];clear hbs;generalize w.alloc _=w1 at *;go_wp2_with fail;refine IA.mono ?_;clear IA;rintro e2 w2 ⟨Ap,cp,pvs,rfl,hown2,vN,hd2⟩;have nG:=aB (wL.o.trans (hd2.mono wL.o.size));have Hb2:=aB (Hb1.o.below hd2 Hb1.o.lt);have Wx:=aB ((Hs.o.below nG.o));have Mw:=aB (Hp.o.below nG.o);have hv2:=Hv.o.below nG.o;have Hlen:=aB vN.len;have oL:=aB (bY hown2 (fun _=>True) fun _ _=>trivial);clear hown2 hd2 wL J8 Hb1;have HW:=HW0.o e;have Hn:aC ((Sc.aI l).length<=1000000):=by have:=Yf.o.kids.2.1;have h1:(Sc.aI l).length<=l.length:=aED _ _;show _<=_;omega
 have Hhv2:=aB hv2;obtain⟨g,e0,_,Ak,m,vk,hQ,_⟩:=hv2;cases e0;obtain⟨z0,_⟩:=hQ.cells;have Hps:=aB vN;have HWh:=aB HW;clear hQ HW0 vN HW;generalize hL:Sc.aI l=L at *;have Hk0:aC (Tr.eP (.branch k a0 l)=Tr.eP (.branch k a0 l)):=rfl;generalize Tr.eP (.branch k a0 l)=CN at *;clear hL;go_wp2_with fail;clear z0
 go_loopg [13] L.length (fun m v wr=> ∃i:Nat,v=vZZ i/\i<=L.length/\L.length-i<=m/\yU w0 wr wb (.slice A fs.length c) rv (.slice Ai W.items.length ci) (us++Sc.bX W x e e (L.take i))/\aD [44,101] w2 wr/\w2.heap.size<=wr.heap.size)
 case atStart=>exact⟨0,rfl,aBZ _,aBT _,by rw[List.take_zero];simpa [Sc.bX] using Mw.o,aD.refl _ _,aBT _⟩
 case round=>
  obtain⟨i,rfl,hi,hm,hP,hK,hZ⟩:=hrel
  by_cases hlt: ¬i<L.length
  ·obtain rfl:i=L.length:=(by omega);have i1:=lC L.length;have i2:=kZ L.length;rw[aDF,<-HWh.o] at hP;have HP:=aB hP;have HK:=aB hK;have HZ:=aB hZ;clear hlt hi hm hP hK hZ;go_wp2_with fail;go_end0;exact⟨rfl,HP.o,(aD.below nG.o).trans HK.o,aBV nG.o.size HZ.o⟩
  replace hlt:=Decidable.of_not_not hlt;have ir0:=iZ i;have ir1:=jJ i L.length;have c1w:=uX i (by have:=Hn.o;omega);obtain⟨h6,hbr⟩:=HIH.o i hlt;have HT:=aB (Sc.M5 (W:=W) (x:=x) e L i hlt h6);obtain⟨v,hv,hq⟩:=Hps.o.at_ hlt;obtain⟨pk,rfl⟩:=hq.form;obtain⟨br,o,rfl,hE⟩:=WU.of oL.o Hlen.o Hb2.o hv;have hE2:=hE.aG hK (by decide);have q0:=hE2.cell;generalize L[i]=p at *;have bZ:=aB hlt;have Hm:=aB hm;have HP:=aB hP;have HK:=aB hK;have HZ:=aB hZ;have HE2:=aB hE2;have Hbr:=aB hbr;have Hq:=aB hq;clear hlt hm hi hv hE hE2 h6 hP hZ hbr;cases p with
  |leaf k2 t2 a2=>
   obtain⟨g2,e0,_,sJ⟩:=hq;cases e0;obtain⟨y0,_⟩:=(sJ.aG hK (by decide)).cells;have HT2:aC (Sc.bX W x e e (L.take (i+1))=Sc.bX W x e e (L.take i)):=(by show _=_;rw[HT.o];exact aCO _);clear sJ hK HT;go_wp2_with fail
   go_roundg (L.length-(i+1))
   case rel=>exact⟨i+1,by go_num,by have:=bZ.o;omega,aBT _,by rw[HT2.o];exact HP.o,HK.o,HZ.o⟩
   case measure=>have:=bZ.o;have:=Hm.o;omega
  |gap t2 a2 d2=>
   obtain⟨g2,e0,_,sJ⟩:=hq;cases e0;obtain⟨y0,_⟩:=(sJ.aG hK (by decide)).cells;have HT2:aC (Sc.bX W x e e (L.take (i+1))=Sc.bX W x e e (L.take i)):=(by show _=_;rw[HT.o];exact aCO _);clear sJ hK HT;go_wp2_with fail
   go_roundg (L.length-(i+1))
   case rel=>exact⟨i+1,by go_num,by have:=bZ.o;omega,aBT _,by rw[HT2.o];exact HP.o,HK.o,HZ.o⟩
   case measure=>have:=bZ.o;have:=Hm.o;omega
  |branch k2 a2 l2=>
   obtain⟨g2,e0,_,Ak2,m2,vk2,sJ,_⟩:=hq;cases e0;obtain⟨y0,_⟩:=(sJ.aG hK (by decide)).cells;have HT2:aC (Sc.bX W x e e (L.take (i+1))=Sc.bX W x e e (L.take i)++Sc.dG W x e (.branch k2 a2 l2)):=HT;obtain⟨hk2,hcn,Kj⟩:=Hbr.o k2 a2 l2 rfl;have g1:(1:Int)<(k2:Int):=(by omega);have g3:1<k2:=(by omega);have hle:(us++Sc.bX W x e e (L.take i)++Sc.dG W x e (.branch k2 a2 l2)).length+1000000<=1000000000:=(by have h1:=Fv.o;rw[HWh.o,aBW] at h1;have h2:(Sc.bX W x e e (L.take (i+1))).length<=(Sc.bX W x e e L).length:=(by have h3:=Sc.oV (W:=W) (x:=x) e (L.take (i+1)) (L.drop (i+1));rw[List.take_append_drop] at h3;rw[h3,aBW];omega);rw[HT2.o,aBW] at h2;rw[aBW,aBW];omega);have aAf:=Kj wr.drew _ s e An cn Aa ca _ (HP.o.below ((aBU _ _).drew)) ((Hh.o.move Mw.o HP.o HZ.o Hq.o).below ((aBU _ _).drew)) ((Wx.o.aG HZ.o HK.o (by decide)).below ((aBU _ _).drew)) Ye.o hle (by have:=Nw.o;omega);rw[List.append_assoc,<-HT2.o] at aAf;clear sJ hK HT HT2 hk2 hcn Kj hle Hbr;go_upto_region 21 with fail;refine aL 100 (qi br (o+i) bs pk An s.length cn Aa ca) ?_;have Ub:=HE2.o.drew;have HK4:aC (aD [44,101] w2 wr.drew):=HK.o;have HZ4:aC (w2.heap.size<=wr.drew.heap.size):=HZ.o;clear HP HK HZ HE2 q0 y0 g1 g3;generalize wr.drew=w4 at *;have hS0:=Ub.s;unfold qi at *
   iterate 7 refine aO 0 hS0 ?_
   clear hS0;refine aA 7 fun C hC=> ?_
   go_simp;refine aAf.mono ?_;clear aAf;rintro e5 w5 ⟨rfl,OZ,sH,Ed⟩;have Kk:=Ub.aG sH (by decide);refine hC.out _ _ (fun _=>Kk.s) ?_;clear hC C Ub Kk;refine aR ?_;go_wp2_with fail
   go_roundg (L.length-(i+1))
   case rel=>exact⟨i+1,by go_num,by have:=bZ.o;omega,aBT _,OZ,HK4.o.trans sH,aBV HZ4.o Ed⟩
   case measure=>have:=bZ.o;have:=Hm.o;omega
end
end Go.Proofs.YtcjjfeephaddcaaGreatDoor
