import Derived.Test.YtcjjfeephaddcaaGreatDoorJao
set_option linter.all false
open Go.Proofs.Tryz renaming prog->aBS
open Go.RowKit.Below renaming refl->aBU
open List renaming length_append->aBW,length_map->aCE,mem_cons->aCJ,append_assoc->aCL
open Nat renaming le_refl->aBT,le_trans->aBV
open SizeOf renaming sizeOf->aFC
set_option maxHeartbeats 64000000
set_option maxRecDepth 100000
open Go.Proofs.Tryz
namespace Go.Proofs.YtcjjfeephaddcaaGreatDoor
open Go.RowKit Go.Maps
variable{w:World}{x:Sc.It}{f k:Nat}
theorem eF.Uv {F:Nat->Prop}: ∀{l:List Tr.PT} {vs:List Value},eF w F l vs->∀u∈vs,u.oneCell'=true
 | [],vs,h,u,hu=>by have h:vs=[]:=h;subst h;exact absurd hu (by simp)
 |p::l,vs,h,u,hu=>by
  obtain⟨v,vs',rfl,hp,hl⟩:=h;rcases aCJ.1 hu with rfl|hu
  ·obtain⟨t,g,rfl⟩:=hp.form;rfl
  ·exact eF.Uv hl u hu
theorem Uk{e:Sc.Env}{a:Nat}{l:List Tr.PT}{y0 y1:Tr.PT}{r:List Tr.PT}(hs:Sc.aI l=y0::y1::r):Sc.uQ x e (.branch 7 a l)=GQ (Sc.eD x.base y1) e:=by
 have hy:Sc.mP (Sc.dP (.branch 7 a l)) 1=y1:=by show Sc.mP (Sc.aI l) 1=y1;rw[hs];rfl
 unfold Sc.uQ;have h7:Sc.kindOf (.branch 7 a l)=7:=rfl;rw[h7,if_neg (by omega),if_pos rfl];unfold Sc.UO;rw[hy];rfl
def Ws(ib lf:Nat)(t:Bs)(b a:Nat)(w':World):Prop:=w'.cell? ⟨lf,1,none⟩=some (.string ⟨t.toArray⟩)/\w'.cell? ⟨ib,1,none⟩=some (vZZ b)/\w'.cell? ⟨lf,2,none⟩=some (vZZ a)
section
variable{σ:Type}{Fn:Nat}{caps:Array Value}{w0:World}{F:Nat->Prop}{T:List TypeId}{x:Sc.It}{ib:Nat}{Q:Tr.PT->Prop}{G:σ->Prop}{st:Sc.Env->Tr.PT->σ->σ}{I:σ->World->Prop}
theorem Gn(V:JD Fn caps w0 F T x ib Q G st I)(k a:Nat)(l:List Tr.PT)(RU:k≠9)(ih: ∀p,aFC p<aFC (Tr.PT.branch k a l)->WalkE Fn caps F T x ib Q G st I p):WalkE Fn caps F T x ib Q G st I (.branch k a l):=by
 obtain⟨i0,ji,iW,jz1,iV⟩:=info_parts VS;intro e ep up pv vb s w hsh hex hlo hQ hI hp he hv hG;have ZR:k≠12:=fun h=>by subst h;simp[Sc.bA] at hex
 have IE:=JD.kids V hsh hlo hQ;have hsh0:=hsh;unfold Sc.uE at hsh;unfold fH at hlo;obtain⟨hll,hlow⟩:=hlo;have e1:Sc.zF x e (.branch k a l)=e:=by unfold Sc.zF;have h7:Sc.kindOf (.branch k a l)=k:=rfl;rw[h7,if_neg RU]
 have hS:=Co (x:=x) (st:=st) (e:=e) (a:=a) (s:=s) hsh.1 hsh.2 ZR;rw[e1] at hS;rw[hS] at hG⊢;have hcl:=V.call e _ pv ep up vb s w hQ hp he hv hI (DJ V.back _ _ _ _ hG);have hrun:=V.run;have he2:(k≠7->Sc.uQ x e (.branch k a l)=e)/\(k=7->∃y0 y1 r,Sc.aI l=y0::y1::r/\Sc.mY y1=false/\fH x.base y1/\(NG k l).length=2/\Sc.uQ x e (.branch k a l)=GQ (Sc.eD x.base y1) e):=by
  refine⟨fun h=> ?_,fun h=> ?_⟩
  ·unfold Sc.uQ;have h7:Sc.kindOf (.branch k a l)=k:=rfl;rw[h7,if_neg RU,if_neg h]
  ·subst h;obtain⟨⟨y0,y1,r,hs,_,_,hb1⟩,hl2⟩:=hsh.1.1 rfl;exact⟨y0,y1,r,hs,hb1,gG hlow y1 (gN (by rw[hs];simp)),hl2,Uk hs⟩
 have hes:(k≠11->NG k l=Sc.bF l)/\(k=11->∃c a2 m,Sc.aI l=[c,.branch 12 a2 m]/\m.length<=1000000000/\NG k l=Sc.bF l++Sc.bF m):=by
  refine⟨fun h=>by unfold NG;rw[if_neg h],fun h=> ?_⟩;subst h;obtain⟨c,a',rfl,hc,hb,hk2⟩:=hsh.1.2.2.2.1 rfl;cases a' with
  |leaf _ _ _=>cases hb
  |gap _ _ _=>cases hb
  |branch k2 a2 m=>
   have hk2:k2=12:=hk2;subst hk2;have h1:=gG hlow (.branch 12 a2 m) (by simp);unfold fH at h1;refine⟨c,a2,m,?_,h1.1,rfl⟩;cases c with
   |leaf _ _ _=>cases hc
   |gap _ _ _=>rfl
   |branch _ _ _=>rfl
 have hp0:=hp;obtain⟨g,rfl,_⟩:=hp0;have has:=fun w=>jW ⟨g,0,none⟩ w
 have Hp:=aB hp;have He:=aB he;have Hv:=aB hv;have HI:=aB hI;have He2:=aB he2;have Hes:=aB hes;have n9:((k:Int)==9)=false:=by simp;omega
 have Hk9:=aB RU;clear e1 hS hp he hv hI hsh hlow hsh0 hex he2 hes RU ZR;generalize st e (.branch k a l) s=s1 at *;generalize Sc.uQ x e (.branch k a l)=en at *;generalize hE:NG k l=es at *;have Hes:=aB Hes.o;have He2:=aB He2.o;clear hE;unfold bO
 go_enter func211,ntmps211
 go_wp2_with fail;refine hcl.mono ?_;clear hcl;rintro e' w1 ⟨rfl,hI1,hK1⟩;have hp1:=Hp.o.same (V.same HI.o hI1);have hv1:=Hv.o.aG hK1 V.types.2.1;have he1:=kJ.aG hK1 V.types.1 He.o;have Sn:=hp1;obtain⟨g',eg,hFg,Al,cl,vl,hgB,_⟩:=Sn;injection eg with _ eg;injection eg with eg;injection eg with eg;injection eg with eg;subst eg;have g0:=hgB.cell 0;have v0:=hv1.cell 0;simp at g0 v0;have hex:=BI hp1 hll;clear Hp He Hv;go_wp2_with fail;refine hex.mono ?_;clear hex g0 v0;rintro e' w2 ⟨A,c,vs,rfl,hown,hps,hd2⟩;have g0:=(hgB.below hd2 hgB.lt).cell 0;simp at g0;go_upto_if 63 with fail
 go_cut [10] (fun s10 wc=> ∃A c vs,s10=.slice A es.length c/\wc.ownsRow w1.heap.size 122 1 (.slice A es.length c) es.length vs/\eF wc F es vs/\es.length<=2000000000/\Below w1.heap.size w1 wc)
 case first=>
  have hln:=aBV (Sc.nZ l) hll
  by_cases hk:k=11
  ·obtain⟨c0,a2,m,hs,hm,he⟩:=Hes.o.2 hk;have n11:((k:Int)==11)=true:=(by simp;omega);have har:=Mi (hp1.below hd2) hll hs hm;have hlm:=aBV (Sc.nZ m) hm;have He:=aB he;have J5:=aB hln;have Ny:=aB hlm;clear hs he hk;generalize Sc.bF l=L at *;generalize Sc.bF m=M at *;have nG:=aB hd2;clear hln hlm hd2;go_wp2_with fail;refine har.mono ?_;clear har;rintro e' w3 ⟨A3,c3,vs3,rfl,hown3,MH,hd3⟩;have Eg:=aM hown fun kk hk=>hd3.block kk (hown.lt kk hk).2
   have qH:=nG.o.trans (hd3.mono nG.o.size);have hpsB:=hps.below hd3;rcases hown3.2 with ⟨hv3,Xu⟩|⟨g3,cap3,cur3,hv3,hb3,hg3,hcc3,hcm3,hcs3,hct3⟩
   ·injection hv3 with h1 h2 h3;subst h1 h3;have hM:M=[]:=List.eq_nil_of_length_eq_zero Xu;subst hM;have:vs3=[]:=MH;subst this;go_wp2_with (at_builtin;refine wpList_append_own_none rfl _ _ 119 rfl w1.heap.size 122 i0 1 underlying119 ji _ L.length vs rfl Eg rfl ?_);go_meet;have He1:es=L:=by have:=He.o;rwa [List.append_nil] at this
    rw[He1];exact⟨A,c,vs,rfl,Eg,hpsB,by have:=J5.o;omega,qH⟩
   ·injection hv3 with h1 h2 h3;subst h1 h3;have hc3: ∀j u,vs3[j]? =some u->w3.cell? ((⟨g3,0,none⟩:Addr).add j)=some u:=fun j u hu=>by
     have h0:0<M.length:=(by have h1:=hown3.1;have h2:j<vs3.length:=(by rcases Nat.lt_or_ge j vs3.length with h|h;exact h;rw[List.getElem?_eq_none h] at hu;cases hu);omega);obtain⟨g4,e4,hc⟩:=pE hown3 h0;injection e4 with e4;injection e4 with e4;subst e4;have:=hc j u hu;simp only[Addr.add];split
     ·rename_i h;subst h;exact this
     ·simpa using this
    go_wp2_with (at_builtin;refine wpList_append_own _ rfl _ _ 119 rfl w1.heap.size 122 i0 _ 1 16 underlying119 ji iW jz1 iV rfl (by omega) _ L.length vs rfl Eg ⟨g3,0,none⟩ M.length c3 vs3 rfl hown3.1 hc3 MH.Uv (by have:=J5.o;have:=Ny.o;unfold maxLen;omega) (by have:=J5.o;have:=Ny.o;omega) qH.size ?_;intro v' w4 qG hgrow _);have hd4:Below w1.heap.size w1 w4:=qH.grown hgrow qH.size fun gg hgg=>(Eg.lt gg hgg).1
    have hbl:=V.fok;have hsame: ∀b,F b->b<w4.heap.size/\w4.heap[b]? =w3.heap[b]? :=fun b hb=>(by obtain⟨q1,q2⟩:=V.same (V.below _ _ _ hI1 qH) (V.below _ _ _ hI1 hd4) b hb;exact⟨q1,q2⟩);have vO:=eF.app (eF.same hsame L vs hpsB) (eF.same hsame M vs3 MH);obtain⟨A',c',rfl,_⟩:=gQ qG;go_meet;have He1:=He.o;rw[He1];refine⟨A',c',vs++vs3,by simp,?_,vO,by simp;have:=J5.o;have:=Ny.o;omega,hd4⟩;simpa using qG
  ·have he:=Hes.o.1 hk;have n11:((k:Int)==11)=false:=(by simp;omega);have He:=aB he;clear he hk;go_wp2_with fail;go_meet;rw[He.o];exact⟨A,c,vs,rfl,hown,hps,by omega,hd2⟩
 case rest=>
  clear hown hps hd2 g0;obtain⟨A,c,vs,rfl,hown,hps,hlen,hd2⟩:=hcut;have hI2:=V.below _ _ _ hI1 hd2;have hK2:=hK1.trans (aD.below hd2);have hp2:=hp1.same (V.same hI1 hI2);have hv2:=hv1.below hd2 hv1.lt;have he2:=he1.below hd2;have hgB2:=hgB.below hd2 hgB.lt;clear hp1 hv1 he1 hd2 hK1 hI1 HI hgB;have Hlen:=aB hlen;clear hlen;go_wp2_with fail
  go_loopg [70] es.length (fun m u wr=> ∃i:Nat,u=vZZ i/\i<=es.length/\es.length-i<=m/\I (PG x st e en (es.take i) s1) wr/\aD T wc wr)
  case atStart=>exact⟨0,rfl,Nat.zero_le _,aBT _,hI2,aD.refl _ _⟩
  case round=>
   obtain⟨i,rfl,hi,hm,Eo,hKr⟩:=hrel
   by_cases hlt:i<es.length
   ·have GZ:=iZ i;have EB:=jJ i es.length;obtain⟨v,hv',hpv⟩:=hps.at_ hlt;obtain⟨r0,rfl,hc⟩:=pE hown (by omega);obtain⟨ct,fr,hty⟩:=eU hown r0 rfl;have q0:wr.cell? ⟨r0,i,none⟩=some v:=(World.cell?_of_block (w:=wc) (a:=⟨r0,i,none⟩) ((hKr r0 _ _ _ hty V.types.2.2).trans hty.symm)).trans (hc _ _ hv');obtain⟨kd,gv,rfl⟩:=hpv.form;have HT:aC (PG x st e en (es.take (i+1)) s1=iL x st (if i=0 then e else en) es[i] (PG x st e en (es.take i) s1)):=(by show _=_;rw[JO x st e en es i hlt]);have hGi:=o7 V.back hG i hlt;obtain⟨k1,k2',k3,k4,k5⟩:=IE _ (List.getElem_mem hlt);have hih:=ih _ k5;have hpr:=hpv.same (V.same hI2 Eo);have Sk:=hp2.same (V.same hI2 Eo);have hvr:=hv2.aG hKr V.types.2.1;have her:=kJ.aG hKr V.types.1 he2;have c1:=uX i (by have:=Hlen.o;omega);have v1:=hvr.cell 1;simp at v1;generalize es[i]=p at *;generalize PG x st e en (es.take i) s1=sj at *;have Sy: ∃cs,aV wr g 178 cs/\cs[0]? =some (vZZ k):=(by have h0:=Sk;obtain⟨g',eg,_,_,_,_,hgB',_⟩:=h0;injection eg with _ eg;injection eg with eg;injection eg with eg;injection eg with eg;subst eg;exact⟨_,hgB',rfl⟩);obtain⟨gcs,Sy,Sw⟩:=Sy;have g0:=(Sy.cell 0).trans Sw;have hkey: ∀(wX:World) (q:Option Addr),I sj wX->aD T wc wX->kJ wX (fun _=>True) (if i=0 then e else en) q->
      Calls aBS 211 #[pZZ ib,.pointer (some ⟨wX.heap.size,0,none⟩),.func (.func Fn) #[] caps] (wX.alloc (.cells #[.iface kd (pZZ gv),.pointer q,pZZ g] 333)) fun e' w'=>e'=.returned (.tuple #[])/\I (iL x st (if i=0 then e else en) p sj) w'/\aD T wc w':=by
     intro wX q hIX hKX hEX;have hd7:=nR wX (.cells #[.iface kd (pZZ gv),.pointer q,pZZ g] 333);have hIX7:=V.below _ _ _ hIX hd7;have:=hih (if i=0 then e else en) q (pZZ g) _ wX.heap.size sj _ k1 k2' k3 k4 hIX7 (hpr.same (V.same Eo hIX7)) (kJ.below hEX hd7) (aV.new wX 333 #[.iface kd (pZZ gv),.pointer q,pZZ g]) hGi;unfold bO at this;refine this.mono ?_;rintro e8 w8 ⟨rfl,Tz,RY⟩;exact⟨rfl,Tz,(hKX.trans (aD.below hd7)).trans RY⟩
    have og:=aB hkey;have bZ:=aB hlt;have Hm:=aB hm;have HIr:=aB Eo;have HKr:=aB hKr;have Her:=aB her;clear hv' hc hty hpv hlt hm hi hkey hih hpr Eo hKr k1 k2' k3 k4 k5 hGi her
    by_cases EC:k=7
    ·obtain⟨y0,y1,r,hs,hb1,hy1,hl2,hen⟩:=He2.o.2 EC;have n7:((k:Int)==7)=true:=by simp;omega
     by_cases hi1:i=1
     ·have hi7:((i:Int)==1)=true:=(by simp;omega);have Hif:aC ((if i=0 then e else en)=GQ (Sc.eD x.base y1) e):=(by show _=_;rw[if_neg (by omega),hen]);have hlet:=YP Sk hll hs;clear hs hen hi1 EC hl2;generalize(if i=0 then e else en)=eX at *;go_wp2_with fail;refine hlet.mono ?_;clear hlet;rintro e3 w3 ⟨hd3,hm3⟩;have Ua:=V.below _ _ _ HIr.o hd3;have hK3:=HKr.o.trans (aD.below hd3);have PD:=Her.o.below hd3;have U_:=Sy.below hd3 Sy.lt;have g0:=(U_.cell 0).trans Sw;cases y1 with
      |branch k2 a2 l2=>cases hb1
      |gap t2 a2 d2=>
       obtain rfl:=hm3;have hk:=og.o w3 ep Ua hK3 (by rw[Hif.o];exact PD);go_wp2_with fail;refine hk.mono ?_;clear hk;rintro e8 w8 ⟨rfl,Tz,RY⟩;go_wp2_with fail
       go_roundg (es.length-(i+1))
       case rel=>exact⟨i+1,by go_num,by have:=bZ.o;omega,aBT _,by rw[HT.o];exact Tz,RY⟩
       case measure=>have:=bZ.o;have:=Hm.o;omega
      |leaf k2 t2 a2=>
       obtain⟨g1,rfl,hF1,hL1⟩:=hm3;have Hif:aC (eX=(t2,x.base+a2)::e):=Hif;unfold fH at hy1;have c2:IntKind.i64.wrap ((x.base:Int)+(a2:Int))=((x.base+a2:Nat):Int):=(by rw[IntWalk.i64_in _ (by omega)];omega);have hat:=aB hy1.1;clear hy1;generalize x.base+a2=at_ at *;go_upto_region 19 with fail;refine aL 100 (Ws ib g1 t2 x.base a2) ?_;have hd4:Below w3.heap.size w3 w3.drew:=(aBU _ _).drew;have Ep:=V.below _ _ _ Ua hd4;have Ub:=PD.below hd4;have hK4:=hK3.drew;have hL4:=hL1.drew;have T_:=U_.drew;clear Ua PD hK3 hL1 U_ g0 hd4 hd3;generalize w3.drew=w4 at *;obtain⟨ics,hib,Jw⟩:=V.base _ _ Ep;have hS0:Ws ib g1 t2 x.base a2 w4:=⟨by have:=hL4.cell 1;simpa using this,(hib.cell 1).trans Jw,by have:=hL4.cell 2;simpa using this⟩
       iterate 14 refine aO 0 hS0 ?_
       obtain⟨hd5,hn⟩:=uS w4 359 #[.string ⟨t2.toArray⟩,vZZ at_,.pointer ep];have hI5:=V.below _ _ _ Ep hd5;have sH:=hK4.trans (aD.below hd5);have Kk:=Ub.below hd5;have hgB5:=T_.below hd5 T_.lt;have HS5:aC (Ws ib g1 t2 x.base a2 (w4.alloc (.cells #[.string ⟨t2.toArray⟩,vZZ at_,.pointer ep] 359))):=(by have hL5:=hL4.below hd5 hL4.lt;exact⟨by have:=hL5.cell 1;simpa using this,((hib.below hd5 hib.lt).cell 1).trans Jw,by have:=hL5.cell 2;simpa using this⟩);refine aO 14 hS0 ?_;clear hS0 Ep hK4 Ub T_ hd5 hL4 hib Jw;refine aA 15 fun C hC=> ?_
       go_simp;refine hC.out _ _ (fun _=>HS5.o) ?_;clear hC C;obtain⟨ne,hne⟩:=dC w4.heap.size;rw[<-hne] at hn⊢;clear hne;generalize w4.alloc _=w5 at *;refine aA 16 fun C hC=> ?_
       go_simp;refine hC.out _ _ (fun _=>HS5.o) ?_;clear hC C;refine aR ?_;have hk:=og.o w5 (some ⟨ne,0,none⟩) hI5 sH (by rw[Hif.o];exact⟨ne,ep,rfl,trivial,hn,Kk⟩);have g0:=(hgB5.cell 0).trans Sw;clear hn;go_wp2_with fail;refine hk.mono ?_;clear hk;rintro e8 w8 ⟨rfl,Tz,RY⟩;go_wp2_with fail
       go_roundg (es.length-(i+1))
       case rel=>exact⟨i+1,by go_num,by have:=bZ.o;omega,aBT _,by rw[HT.o];exact Tz,RY⟩
       case measure=>have:=bZ.o;have:=Hm.o;omega
     ·have hi7:((i:Int)==1)=false:=(by simp;omega);have hi0:i=0:=(by have:=bZ.o;omega);have hk:=og.o wr ep HIr.o HKr.o (by rw[if_pos hi0];exact Her.o);have Hi0:=aB hi0;clear hi0 hi1 hs hen EC hl2;generalize(if i=0 then e else en)=eX at *;go_wp2_with fail;refine hk.mono ?_;clear hk;rintro e8 w8 ⟨rfl,Tz,RY⟩;go_wp2_with fail
      go_roundg (es.length-(i+1))
      case rel=>exact⟨i+1,by go_num,by have:=bZ.o;omega,aBT _,by rw[HT.o];exact Tz,RY⟩
      case measure=>have:=bZ.o;have:=Hm.o;omega
    ·have n7:((k:Int)==7)=false:=(by simp;omega);have hen:=He2.o.1 EC;have hk:=og.o wr ep HIr.o HKr.o (by rw[hen,ite_self];exact Her.o);clear EC hen;generalize(if i=0 then e else en)=eX at *;go_wp2_with fail;refine hk.mono ?_;clear hk;rintro e8 w8 ⟨rfl,Tz,RY⟩;go_wp2_with fail
     go_roundg (es.length-(i+1))
     case rel=>exact⟨i+1,by go_num,by have:=bZ.o;omega,aBT _,by rw[HT.o];exact Tz,RY⟩
     case measure=>have:=bZ.o;have:=Hm.o;omega
   ·obtain rfl:i=es.length:=(by omega);rw[List.take_length] at Eo;go_wp2_with fail;go_end0;exact⟨rfl,Eo,hK2.trans hKr⟩
theorem JX(V:JD Fn caps w0 F T x ib Q G st I): ∀(n:Nat) (p:Tr.PT),aFC p<=n->WalkE Fn caps F T x ib Q G st I p
 |0,p,h=>by cases p<;>simp at h<;>omega
 |n+1,.leaf k t a,_=>by intro e ep up pv vb s w _ hex;cases hex
 |n+1,.gap t a d,_=>Oo V t a d
 |n+1,.branch k a l,h=>by
  by_cases hk:k=9
  ·subst hk;exact JW V a l fun p hp=>JX V n p (by omega)
  ·exact Gn V k a l hk fun p hp=>JX V n p (by omega)
theorem Zc(V:JD Fn caps w0 F T x ib Q G st I)(p:Tr.PT):WalkE Fn caps F T x ib Q G st I p:=JX V _ p (aBT _)
end
theorem Tr.DU: ∀p:Tr.PT,1<=Tr.eP p
 | .leaf _ _ _=>by simp[Tr.eP]
 | .gap _ _ _=>by simp[Tr.eP]
 | .branch _ _ l=>by simp[Tr.eP]
theorem Tr.oF: ∀{l:List Tr.PT} {p:Tr.PT},p∈l->Tr.eP p<=Tr.eB l
 | [],_,h=>absurd h (by simp)
 |q::l,p,h=>by
  simp only[Tr.eB];rcases aCJ.1 h with rfl|h
  ·omega
  ·have:=Tr.oF h;omega
theorem Tr.yT: ∀l:List Tr.PT,l.length<=Tr.eB l
 | []=>by simp
 |p::l=>by have:=Tr.yT l;have:=Tr.DU p;simp only[Tr.eB,List.length_cons];omega
section
variable(W:Sc.Wk)(x:Sc.It)
theorem wU{e:Sc.Env}{p:Tr.PT}(h7:Sc.kindOf p≠7)(h9:Sc.kindOf p≠9)(h18:Sc.kindOf p≠18):Sc.visitM W x e p=[]:=by
 unfold Sc.visitM;rw[if_neg h7,if_neg h9,if_neg h18]
mutual
theorem TH: ∀(p:Tr.PT) (e:Sc.Env) (us:List Sc.Us),iL x (fun e p us=>us++Sc.visitM W x e p) e p us=us++Sc.dG W x e p
 | .leaf k t a,e,us=>by unfold iL Sc.dG;rw[wU W x (by simp[Sc.kindOf]) (by simp[Sc.kindOf]) (by simp[Sc.kindOf])]
 | .gap t a d,e,us=>by unfold iL Sc.dG;rw[wU W x (by simp[Sc.kindOf]) (by simp[Sc.kindOf]) (by simp[Sc.kindOf])]
 | .branch k a l,e,us=>by
  unfold iL Sc.dG;rw[JV l]
  by_cases hk:k=12
  ·rw[if_pos hk,wU W x (by simp[Sc.kindOf,hk]) (by simp[Sc.kindOf,hk]) (by simp[Sc.kindOf,hk]),List.nil_append]
  ·rw[if_neg hk,aCL]
theorem JV: ∀(l:List Tr.PT) (e1 e2:Sc.Env) (us:List Sc.Us),mG x (fun e p us=>us++Sc.visitM W x e p) e1 e2 l us=us++Sc.bX W x e1 e2 l
 | [],_,_,us=>by unfold mG Sc.bX;simp
 |p::l,e1,e2,us=>by
  unfold mG Sc.bX;split
  ·rw[TH p,JV l,aCL]
  ·exact JV l _ _ _
end
end
theorem Sc.EJ (b:Nat)(p:Tr.PT):(Sc.bE b p).length<=(Sc.eZ p).length:=by
 unfold Sc.bE Sc.UK;rw[aCE];exact List.length_filterMap_le _ _
theorem Sc.aAv (l:List Tr.PT)(i n:Nat)(h: ∀p∈l,Tr.eP p<=n)(hn:1<=n):Tr.eP (Sc.mP l i)<=n:=by
 unfold Sc.mP;cases hi:l[i]? with
 |none=>simpa [Sc.Qu,Tr.eP] using hn
 |some p=>exact h p (List.mem_of_getElem? hi)
theorem Sc.uL (p:Tr.PT):(Sc.eZ p).length<=Tr.eP p:=by
 cases p with
 |leaf _ _ _=>simp[Sc.eZ]
 |gap _ _ _=>simp[Sc.eZ]
 |branch k a l=>have:=Tr.yT l;simp only[Sc.eZ,Tr.eP];omega
theorem Sc.RZ (b:Nat)(p:Tr.PT):(Sc.bE b (Sc.mP (Sc.dP p) 1)).length<=Tr.eP p:=by
 have h1:=Sc.EJ b (Sc.mP (Sc.dP p) 1);have h2:=Sc.uL (Sc.mP (Sc.dP p) 1);have h3:=Sc.aAv (Sc.dP p) 1 (Tr.eP p) (fun q hq=>by
  have h4:q∈Sc.eZ p:=(List.mem_filter.1 hq).1;cases p with
  |leaf _ _ _=>exact absurd h4 (by simp[Sc.eZ])
  |gap _ _ _=>exact absurd h4 (by simp[Sc.eZ])
  |branch k a l=>have:=Tr.oF (l:=l) h4;simp only[Tr.eP];omega) (Tr.DU p)
 omega
theorem Sc.Gp (W:Sc.Wk)(x:Sc.It)(e:Sc.Env)(p:Tr.PT):(Sc.visitM W x e p).length<=Tr.eP p:=by
 have h0:=Tr.DU p;unfold Sc.visitM;split
 ·rw[aCE];cases Sc.UO x.base p<;>simp[h0]
 ·split
  ·exact aBV (Sc.rM _ _ _) (Sc.RZ _ _)
  ·split
   ·simpa using h0
   ·simp
def QV(x:Sc.It)(p:Tr.PT):Prop:=Sc.uE p/\fH x.base p/\Tr.eP p<=1000000
theorem f_(x:Sc.It)(k a:Nat)(l:List Tr.PT)(h:QV x (.branch k a l)):l.length<=1000000000/\(∀p∈l,Sc.bA p=true->QV x p)/\(k=11->∀k2 a2 m,.branch k2 a2 m∈l->m.length<=1000000000/\∀p∈m,Sc.bA p=true->QV x p):=by
 obtain⟨h1,h2,h3⟩:=h;unfold Sc.uE at h1;unfold fH at h2;simp only[Tr.eP] at h3;refine⟨h2.1,fun p hp _=>⟨(Sc.yJ l).1 h1.2 p hp,gG h2.2 p hp,by have:=Tr.oF hp;omega⟩,fun _ k2 a2 m hm=> ?_⟩;have hc:=Tr.oF hm;have hlm:=gG h2.2 _ hm;unfold fH at hlm;simp only[Tr.eP] at hc;exact⟨hlm.1,fun p hp _=>⟨QH h1.2 hm hp,gG hlm.2 p hp,by have:=Tr.oF hp;omega⟩⟩
section
variable{w0:World}{F:Nat->Prop}{pg mb:Nat}{A:Option Addr}{c:Nat}{fs:List Fl}{Ad:Option Addr}{cd:Nat}{W:Sc.Wk}{GG:List (List Nat)}{ts is:Value}
def VisI(w0:World)(pg mb:Nat)(fv ts is dv:Value)(pb xb ib:Nat)(us:List Sc.Us)(w:World):Prop:=
 IQ w0 w pg mb fv ts is dv us/\aV w pb 77 #[bO pg]/\aV w xb 229 #[bO ib]
theorem zl(h:Ph w0 F pg mb A c fs Ad cd W GG){ib:Nat}(hx:xW W GG f k x ib)(pb xb:Nat):
  JD 170 #[bO pb,bO xb] w0 F [86,31] x ib (QV x) (fun us:List Sc.Us=>us.length+1000000<=1000000000) (fun e p us=>us++Sc.visitM W x e p) (VisI w0 pg mb (.slice A fs.length c) ts is (.slice Ad W.items.length cd) pb xb ib)where
 run:=fun _ _=>rfl
 keep:=fun s w hI=>⟨hI.1.size,fun b hb hl=>hI.1.old b hl (h.ok b hb).2.1 (h.ok b hb).2.2⟩
 fok:=fun b hb=>(h.ok b hb).1
 below:=fun s w w' hI hd=>⟨hI.1.below hd,hI.2.1.below hd hI.2.1.lt,hI.2.2.below hd hI.2.2.lt⟩
 base:=fun s w hI=>by obtain⟨tw,hI2⟩:=(h.at_ hI.1).item hx;obtain⟨_,_,qb,nv,Ap,cp,ev,mv,me,av,hB,_⟩:=hI2;exact⟨_,hB,rfl⟩
 types:=by decide
 call:=by
  rintro e p pv ep up vb us w ⟨q1,q2,q3⟩ hp he hv ⟨hP,hpb,hxb⟩ hG;have hvl:=Sc.Gp W x e p;have hpl:=Sc.RZ x.base p;have hG:(us++Sc.visitM W x e p).length+1000000<=1000000000:=hG;rw[aBW] at hG;have hvi:=Pw h hP hx he hp hv q1 q2 (by omega) (by omega) (fun _=>by omega);have p0:=hpb.cell 0;have x0:=hxb.cell 0;simp[bO] at p0 x0;have Hpb:=aB hpb;have WR:=aB hxb;clear hpb hxb hp he hv hP hG hvl hpl q1 q2 q3;unfold bO at *;generalize us++Sc.visitM W x e p=us2 at *
  go_enter func170,ntmps170
  go_wp2_with fail;refine hvi.mono ?_;clear hvi p0 x0;rintro e' w' ⟨rfl,hP,hK⟩;go_wp2_with fail;go_end0;exact⟨rfl,⟨hP,Hpb.o.aG hK (by decide),WR.o.aG hK (by decide)⟩,hK⟩
 back:=fun e p s hG=>by have hG:(s++Sc.visitM W x e p).length+1000000<=1000000000:=hG;rw[aBW] at hG;show s.length+1000000<=1000000000;omega
 sub:=f_ x
end
section
variable{σ:Type}{Fn:Nat}{caps:Array Value}{w0:World}{F:Nat->Prop}{T:List TypeId}{x:Sc.It}{ib:Nat}{Q:Tr.PT->Prop}{G:σ->Prop}{st:Sc.Env->Tr.PT->σ->σ}{I:σ->World->Prop}
def WaS(ib pb:Nat)(ev sv:Value)(w':World):Prop:=w'.cell? ⟨ib,8,none⟩=some ev/\w'.cell? ⟨ib,7,none⟩=some sv/\w'.cell? ⟨ib,2,none⟩=some (bO pb)
theorem Zj(V:JD Fn caps w0 F T x ib Q G st I){s:σ}{tw:Bool}(hit:Nt w F x tw ib)(hd:x.bH=true)(hI:I s w)(hsh:Sc.uE x.expr)(hex:Sc.bA x.expr=true)(hlo:fH x.base x.expr)(hQ:Q x.expr)(hpl:x.params.length<=1000000000)(hG:G (iL x st (Sc.dS x.params []) x.expr s)):
  Calls aBS 169 #[bO ib,.func (.func Fn) #[] caps] w fun e' w'=>e'=.returned (.tuple #[])/\I (iL x st (Sc.dS x.params []) x.expr s) w'/\aD T w w':=by
 have hwk:=Zc V x.expr;obtain⟨hFi,_,pb,nv,A,c,ev,mv,me,av,hB,vO,hn,hc,hr,hty,he,h1,h2,h3⟩:=hit;have hpe:=he hd;obtain⟨kd,gv,rfl⟩:=hpe.form;have i8:=hB.cell 8;have i7:=hB.cell 7;have i2:=hB.cell 2;simp[kW] at i8 i7 i2;have hS0:WaS ib pb (.iface kd (pZZ gv)) (.slice A x.params.length c) w.drew:=⟨i8,i7,i2⟩;have hfo:=V.fok ib hFi;have hdr:Below w.heap.size w w.drew:=(aBU _ _).drew;have hI2:=V.below _ _ _ hI hdr;have hK2:aD T w w.drew:=aD.below hdr;have hpe2:=hpe.below hdr;have hr2:OP w.drew F A x.params:=hr.below hdr;have hB2:=hB.drew;clear hn hc hr hty he h1 h2 h3 vO hB i8 i7 i2 hpe hd hI hdr
 go_enter func169,ntmps169
 go_upto_region 1 with fail;refine aL 100 (WaS ib pb (.iface kd (pZZ gv)) (.slice A x.params.length c)) ?_;generalize w.drew=w2 at *;unfold WaS at *
 iterate 10 refine aO 0 hS0 ?_
 iterate 4 refine aO 11 hS0 ?_
 refine aO 17 hS0 ?_;clear hS0;have hin:=XQ (w:=w2) (Fe:=fun _=>True) (env:=[]) (p:=none) rfl (A:=A) (c:=c) hr2 hpl;refine aA 10 fun C hC=> ?_
 go_simp;refine hin.mono ?_;clear hin;rintro e3 w3 ⟨q,rfl,PD,hd3⟩;have hB3:=hB2.below hd3 hB2.lt;have Ua:=V.below _ _ _ hI2 hd3;have hK3:=hK2.trans (aD.below hd3);have hpe3:=hpe2.below hd3;have hS3:WaS ib pb (.iface kd (pZZ gv)) (.slice A x.params.length c) w3:=⟨by have:=hB3.cell 8;simpa [kW] using this,by have:=hB3.cell 7;simpa [kW] using this,by have:=hB3.cell 2;simpa [kW] using this⟩;unfold WaS at hS3;refine hC.out _ _ (fun _=>hS3) ?_;clear hC C hB2 hI2 hK2 hpe2 hr2 hd3;refine aO 15 hS3 ?_;clear hS3;obtain⟨hd4,hn⟩:=uS w3 333 #[.iface kd (pZZ gv),.pointer q,pZZ pb];have Ep:=V.below _ _ _ Ua hd4;have hK4:=hK3.trans (aD.below hd4);have tH:=hpe3.below hd4;have he4:=PD.below hd4;have hB4:=hB3.below hd4 hB3.lt;have ou:aC (WaS ib pb (.iface kd (pZZ gv)) (.slice A x.params.length c) (w3.alloc (.cells #[.iface kd (pZZ gv),.pointer q,pZZ pb] 333))):=⟨by have:=hB4.cell 8;simpa [kW] using this,by have:=hB4.cell 7;simpa [kW] using this,by have:=hB4.cell 2;simpa [kW] using this⟩;unfold WaS at ou;clear Ua hK3 hpe3 PD hd4 hB3;refine aA 16 fun C hC=> ?_
 go_simp;refine hC.out _ _ (fun _=>ou.o) ?_;clear hC C;clear ou;obtain⟨ne,hne⟩:=dC w3.heap.size;rw[<-hne] at hn⊢;clear hne;generalize w3.alloc _=w4 at *;have hcl:=hwk (Sc.dS x.params []) q (pZZ pb) _ ne s w4 hsh hex hlo hQ Ep tH he4 hn hG;clear hwk hsh hex hlo hQ tH he4 hn hG;generalize hs2:iL x st (Sc.dS x.params []) x.expr s=s2 at *;have Wx:=aB hs2;clear hs2;unfold bO at *;refine aA 18 fun C hC=> ?_
 go_simp;refine hcl.mono ?_;clear hcl;rintro e5 w5 ⟨rfl,hI5,sH⟩;have hsm:=(V.same Ep hI5 ib hFi).2;have rE:aV w5 ib 234 _:=hsm.trans hB4;refine hC.out _ _ (fun _=>⟨by have:=rE.cell 8;simpa [kW] using this,by have:=rE.cell 7;simpa [kW] using this,by have:=rE.cell 2;simpa [kW] using this⟩) ?_;clear hC C hB4 Ep;refine aR ?_;go_wp2_with fail;go_end0;exact⟨rfl,by rw[Wx.o];exact hI5,hK4.trans sH⟩
end
structure Xo(x:Sc.It):Prop where
 d:x.bH=true
 sh:Sc.uE x.expr
 ex:Sc.bA x.expr=true
 low:fH x.base x.expr
 cnt:Tr.eP x.expr<=1000000
 par:x.params.length<=1000000
 pat: ∀y:Sc.Wd,some y∈x.params->y.at_<=1000000000
theorem VV.YX {F:Nat->Prop}{pg:Nat}{A:Option Addr}{c:Nat}{fs:List Fl}{Ad:Option Addr}{cd:Nat}{W:Sc.Wk}{GG:List (List Nat)}(h:VV w F pg A c fs Ad cd W GG){g:Nat}(hx:xW W GG f k x g):Nt w F x (Sc.dW (Sc.aT W f) k) g:=by
 obtain⟨l,G,h1,h2,h3,h4⟩:=hx.ex;have e1:Sc.aT W f=l:=by unfold Sc.aT;rw[h1];rfl
 rw[e1];exact(h.its f l G h1 h3).2 k x g h2 h4
def DfS(pb xb pg ib nb f a:Nat)(tw:Bool)(w':World):Prop:=w'.cell? ⟨pb,0,none⟩=some (bO pg)/\w'.cell? ⟨xb,0,none⟩=some (bO ib)/\w'.cell? ⟨ib,0,none⟩=some (vZZ f)/\
 w'.cell? ⟨ib,5,none⟩=some (bO nb)/\w'.cell? ⟨ib,4,none⟩=some (.bool tw)/\w'.cell? ⟨nb,1,none⟩=some (vZZ a)
def aBe(pb xb pg ib f:Nat)(sv:Value)(w':World):Prop:=w'.cell? ⟨pb,0,none⟩=some (bO pg)/\w'.cell? ⟨xb,0,none⟩=some (bO ib)/\w'.cell? ⟨ib,0,none⟩=some (vZZ f)/\w'.cell? ⟨ib,7,none⟩=some sv
section
variable{w0 w:World}{F:Nat->Prop}{pg mb:Nat}{A:Option Addr}{c:Nat}{fs:List Fl}{Ad:Option Addr}{cd:Nat}{W:Sc.Wk}{GG:List (List Nat)}{ts is:Value}{us:List Sc.Us}
theorem Zh(h:Ph w0 F pg mb A c fs Ad cd W GG)(hP:IQ w0 w pg mb (.slice A fs.length c) ts is (.slice Ad W.items.length cd) us){ib:Nat}(hx:xW W GG f k x ib)(hd:Xo x)(hl:(us++Sc.PK W f k x).length+1000000<=1000000000):
  Calls aBS 122 #[pZZ pg,bO ib] w (Xp w0 w pg mb (.slice A fs.length c) ts is (.slice Ad W.items.length cd) (us++Sc.PK W f k x)):=by
 have hW:=h.at_ hP;obtain⟨lZ,hna,_,hfl⟩:=hW.DK hx;have hit:=hW.YX hx;have tY:aC (x.file<=1000000000):=by have:=hW.few;have:=hW.fl;show _<=_;omega
 have HD:aC (Sc.PK W f k x=x.name.toList.map (fun w=>Sc.dM x.file w.at_ 0 (Sc.dW (Sc.aT W f) k))++Sc.aY x.file [] x.params++Sc.dG W x (Sc.dS x.params []) x.expr):=rfl;generalize E_:Sc.dW (Sc.aT W f) k=tw at *;generalize Sc.PK W f k x=dm at *;have Hl:aC ((us++x.name.toList.map (fun w=>Sc.dM x.file w.at_ 0 tw)++Sc.aY x.file [] x.params++Sc.dG W x (Sc.dS x.params []) x.expr).length+1000000<=1000000000):=by rw[HD.o] at hl;show _<=_;simpa [Nat.add_assoc] using hl
 have HE:aC (us++dm=us++x.name.toList.map (fun w=>Sc.dM x.file w.at_ 0 tw)++Sc.aY x.file [] x.params++Sc.dG W x (Sc.dS x.params []) x.expr):=by show _=_;rw[HD.o];simp[aCL]
 generalize us++dm=ud at *;clear hl HD E_;have hd1:Below w.heap.size w ((w.alloc (.cells #[bO pg] 77)).alloc (.cells #[bO ib] 229)):=((aBU _ w).alloc (aBT _) _).alloc (by simp) _;have hpb:aV ((w.alloc (.cells #[bO pg] 77)).alloc (.cells #[bO ib] 229)) w.heap.size 77 #[bO pg]:=(aV.new w _ _).alloc _;have hxb:=aV.new (w.alloc (.cells #[bO pg] 77)) 229 #[bO ib];rw[World.size_alloc] at hxb;have hP1:=hP.below hd1;have hK1:aD [86,31] w ((w.alloc (.cells #[bO pg] 77)).alloc (.cells #[bO ib] 229)):=aD.below hd1;have hit1:=hit.keep hd1.size (fun b hb hl=>⟨hd1.block b hl,hb⟩);have hFi:=hit1.1;obtain⟨_,_,qb,nv,Ap,cp,ev,mv,me,av,hB,_,hn,_⟩:=hit1;obtain⟨xb,hxe⟩:=dC (w.heap.size+1);obtain⟨pb,hpe⟩:=dC w.heap.size;clear hit hd1 hP hW lZ hfl;unfold bO at *
 go_enter func122,ntmps122
 go_upto_region 1 with fail;rw[<-hxe] at hxb⊢;rw[<-hpe] at hpb⊢;clear hxe hpe;generalize(w.alloc _).alloc _=w1 at *;have x0:=hxb.cell 0;have i5:=hB.cell 5;simp[kW] at x0 i5;generalize hu1:us++x.name.toList.map (fun w=>Sc.dM x.file w.at_ 0 tw)=u1 at *;have Hu1:=aB hu1;clear hu1;cases zA:x.name
 case' none=>
  rw[zA] at hn;obtain rfl:nv=oZZ:=hn;have Nu:=aB zA;clear zA;obtain⟨w2,hw2⟩:=dC w1;have hP2:IQ w0 w2 pg mb (.slice A fs.length c) ts is (.slice Ad W.items.length cd) u1:=by have:=Hu1.o;rw[Nu.o] at this;rw[<-this,hw2];simpa using hP1
  have hK2:aD [86,31] w w2:=(by rw[hw2];exact hK1);have ZJ:aV w2 pb 77 #[pZZ pg]:=(by rw[hw2];exact hpb);have ZB:aV w2 xb 229 #[pZZ ib]:=(by rw[hw2];exact hxb);go_upto_region 3 with fail;rw[<-hw2];clear hw2 hna hP1 hK1 hpb hxb hB x0 i5
 case' some y=>
  rw[zA] at hn;obtain⟨nb,rfl,hFn,Y0⟩:=hn;have hat:=aB (hna y zA);have Nu:=aB zA;clear zA hna;go_upto_region 2 with fail;refine aL 100 (DfS pb xb pg ib nb x.file y.at_ tw) ?_;have hP2:=hP1.below ((aBU _ _).drew);have hK2:=hK1.drew;have ZJ:=hpb.drew;have ZB:=hxb.drew;have hB2:=hB.drew;have xG:=Y0.drew;clear x0 i5 hP1 hK1 hpb hxb hB Y0;generalize w1.drew=wa at *;have hS0:DfS pb xb pg ib nb x.file y.at_ tw wa:=⟨by have:=ZJ.cell 0;simpa using this,by have:=ZB.cell 0;simpa using this,by have:=hB2.cell 0;simpa [kW] using this,by have:=hB2.cell 5;simpa [kW] using this,by have:=hB2.cell 4;simpa [kW] using this,by have:=xG.cell 1;simpa using this⟩;unfold DfS bO at *
  iterate 16 refine aO 0 hS0 ?_
  clear hS0;have hit2:=EW x.file y.at_ 0 tw wa;refine aA 16 fun C hC=> ?_
  go_simp;refine hit2.mono ?_;clear hit2;rintro e3 w3 ⟨rfl,hd3⟩;have hP3:=hP2.below hd3;have hK3:=hK2.trans (aD.below hd3);have X9:=ZJ.below hd3 ZJ.lt;have X3:=ZB.below hd3 ZB.lt;have hB3:=hB2.below hd3 hB2.lt;have xE:=xG.below hd3 xG.lt;clear hP2 hK2 ZJ ZB hB2 xG hd3;refine hC.out _ _ (fun _=>⟨by have:=X9.cell 0;simpa using this,by have:=X3.cell 0;simpa using this,by have:=hB3.cell 0;simpa [kW] using this,by have:=hB3.cell 5;simpa [kW] using this,by have:=hB3.cell 4;simpa [kW] using this,by have:=xE.cell 1;simpa using this⟩) ?_;clear hC C;have had:=vD hP3 (u:=Sc.dM x.file y.at_ 0 tw) tY.o hat.out (by have:=Hl.o;have h1:=Hu1.o;have h2:u1.length≥us.length:=(by rw[<-h1];simp);rw[aBW,aBW] at this;omega);refine aA 17 fun C hC=> ?_
  go_simp;refine had.mono ?_;clear had;rintro e4 w2 ⟨rfl,uN,hK4⟩;have X8:=X9.aG hK4 (by decide);have ZA:=X3.aG hK4 (by decide);have hB4:=hB3.aG hK4 (by decide);have IZ:=xE.aG hK4 (by decide);refine hC.out _ _ (fun _=>⟨by have:=X8.cell 0;simpa using this,by have:=ZA.cell 0;simpa using this,by have:=hB4.cell 0;simpa [kW] using this,by have:=hB4.cell 5;simpa [kW] using this,by have:=hB4.cell 4;simpa [kW] using this,by have:=IZ.cell 1;simpa using this⟩) ?_;clear hC C;have hP2:IQ w0 w2 pg mb (.slice A fs.length c) ts is (.slice Ad W.items.length cd) u1:=(by have:=Hu1.o;rw[Nu.o] at this;rw[<-this];exact uN);have hK2:=hK3.trans hK4;have ZJ:=X8;have ZB:=ZA;clear hP3 uN hK3 hK4 X9 X8 X3 ZA hB3 hB4 xE IZ hat;refine aR ?_;go_upto_region 3 with fail
 all_goals
  have hP3:=hP2.below ((aBU _ _).drew);have hK3:=hK2.drew;have X9:=ZJ.drew;have X3:=ZB.drew;clear hP2 hK2 ZJ ZB;obtain⟨tw3,Ua⟩:=(h.at_ hP3).item hx;obtain⟨hFi3,_,qb3,nv3,A3,c3,ev3,mv3,me3,av3,hB3,_,_,hc3,hr3,ZF,_⟩:=Ua;refine aL 100 (aBe pb xb pg ib x.file (.slice A3 x.params.length c3)) ?_;generalize w2.drew=w3 at *;have hS0:aBe pb xb pg ib x.file (.slice A3 x.params.length c3) w3:=⟨by have:=X9.cell 0;simpa using this,by have:=X3.cell 0;simpa using this,by have:=hB3.cell 0;simpa [kW] using this,by have:=hB3.cell 7;simpa [kW] using this⟩;unfold aBe bO at *
  iterate 9 refine aO 0 hS0 ?_
  clear hS0;have IA:=QK hP3 hr3 ZF tY.o hd.pat (by have h1:=Hl.o;have h2:=hd.par;rw[aBW,aBW] at h1;omega) hc3;clear hr3 ZF hc3;refine aA 9 fun C hC=> ?_
  go_simp;refine IA.mono ?_;clear IA;rintro e4 w4 ⟨rfl,uN,hK4⟩;have X8:=X9.aG hK4 (by decide);have ZA:=X3.aG hK4 (by decide);have hB4:=hB3.aG hK4 (by decide);refine hC.out _ _ (fun _=>⟨by have:=X8.cell 0;simpa using this,by have:=ZA.cell 0;simpa using this,by have:=hB4.cell 0;simpa [kW] using this,by have:=hB4.cell 7;simpa [kW] using this⟩) ?_;clear hC C hP3 X9 X3 hB3 hB4;refine aR ?_;obtain⟨tw4,Ep⟩:=(h.at_ uN).item hx;have hwk:=Zj (zl h hx pb xb) Ep hd.d ⟨uN,X8,ZA⟩ hd.sh hd.ex hd.low ⟨hd.sh,hd.low,hd.cnt⟩ (by have:=hd.par;omega) (by rw[TH];exact Hl.o);rw[TH] at hwk;have x0:=ZA.cell 0;simp at x0;clear Ep X8 ZA uN;have HE1:=aB HE.o.symm;generalize u1++Sc.aY x.file [] x.params++Sc.dG W x (Sc.dS x.params []) x.expr=u3 at *;unfold bO at hwk;go_wp2_with fail;refine hwk.mono ?_;clear hwk x0;rintro e5 w5 ⟨rfl,⟨OZ,_,_⟩,sH⟩;go_wp2_with fail;go_end0;exact⟨rfl,by rw[<-HE1.o];exact OZ,(hK3.trans hK4).trans sH⟩
end
end Go.Proofs.YtcjjfeephaddcaaGreatDoor
