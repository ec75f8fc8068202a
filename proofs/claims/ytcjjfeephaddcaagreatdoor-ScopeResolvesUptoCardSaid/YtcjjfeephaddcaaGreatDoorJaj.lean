import Derived.Test.YtcjjfeephaddcaaGreatDoorJai
import Derived.Laws.AppendOwnNone
set_option linter.all false
open Classical renaming byContradiction->aGT
open Go.Calls renaming quiet_of_same->aFV
open Go.Instr renaming typeAssert->aEL
open Go.IntKind renaming i64->aCQ
open Go.IntWalk renaming i64_in->aCV
open Go.Lib renaming run_eql_slice_nil->aGN
open Go.Proofs.Tryz renaming prog->aBS
open Go.Region renaming wanted->aEA
open Go.RowKit.Below renaming refl->aBU,heap_setCell->aCG,heap_alloc->aEQ
open Go.Value renaming slice->aBX,oneCell'->aCA,ownBlock->aCZ
open Go.World renaming setCell->aCI,news_of_block->aCK,cell?_of_block->aCM,ownsRow_nil->aCW
open List renaming length_append->aBW,length_drop->aCB,length_cons->aCC,getElem?_eq_some_iff->aCD,mem_singleton->aCH,mem_cons->aCJ,append_assoc->aCL,mem_append->aDJ,eq_nil_of_length_eq_zero->aDV,mem_cons_of_mem->aEK
open Nat renaming le_refl->aBT,zero_le->aBZ,lt_of_lt_of_le->aCF,lt_irrefl->aDR,add_assoc->aDU,eq_zero_or_pos->aFU
open Option renaming some->aDB
set_option maxHeartbeats 64000000
set_option maxRecDepth 100000
open Go.Proofs.Tryz
namespace Go.Proofs.YtcjjfeephaddcaaGreatDoor
open Go.RowKit
variable{w w':World}{A:Option Addr}{a e u:Int}{c g k:Nat}{p:Tr.PT}{v:Value}{F:Nat->Prop}{vs:List Value}{l:List Tr.PT}
theorem XG: ∀(T:List Tk) (i j:Nat),(fJ (T.drop i))[j]? =(fJ T)[i*3+j]?
 |T,0,j=>by simp
 | [],i+1,j=>by simp[fJ]
 |t::T,i+1,j=>by
  rw[List.drop_succ_cons,XG T i j];have e:fJ (t::T)=Cv t++fJ T:=by simp[fJ]
  rw[e,List.getElem?_append_right (by simp[Cv];omega)]
  congr 1
  simp[Cv];omega
theorem Ec:(aBS.info? 116).map (fun i=>(i.zero,i.size,i.bytes))=some (some (.agg #[oZZ,kZZ 0,kZZ 0,kZZ 0]),4,32):=by kernel_rfl
structure Mq(K:Nat->Prop)(g gt d:Nat)(A:Option Addr)(c:Nat)(s:Bs)(T:List Tk)(w0:World)(i:Nat)(ks:List Tr.Kd)(ts:List Tr.PT)(w:World):Prop where
 F:fG (Old w0) gt w0 w
 R: ∃b n,jB w K g gt s T b n i
 O: ∃Av cv vs At ct us,PR w K gt d A T.length c ks Av cv vs ts At ct us
 row:fP w (fun x=>K x/\x≠g/\x≠gt) A (fJ T)
section
variable{w0 w w':World}{K:Nat->Prop}{g gt d:Nat}{A:Option Addr}{c:Nat}{s:Bs}{T:List Tk}{i:Nat}{ks:List Tr.Kd}{ts:List Tr.PT}
theorem Mq.below (S:Mq K g gt d A c s T w0 i ks ts w)(hd:Below w.heap.size w w'):Mq K g gt d A c s T w0 i ks ts w':=by
 obtain⟨b,n,R⟩:=S.R;obtain⟨Av,cv,vs,At,ct,us,O⟩:=S.O;exact⟨S.F.trans ⟨hd.size,fun x hx _=>hd.block x (aCF hx S.F.size),Calm.below hd⟩,⟨b,n,R.below hd⟩,⟨Av,cv,vs,At,ct,us,O.below hd⟩,S.row.keep hd.size fun x hx hl=>⟨hd.block x hl,hx⟩⟩
theorem Mq.drewN (S:Mq K g gt d A c s T w0 i ks ts w)(m:Nat):Mq K g gt d A c s T w0 i ks ts (w.drewN m):=S.below (below_drewN (aBU _ _) m)
theorem Qh(X:iN s T)(hB:aV w gt 131 #[pZZ d,.slice A T.length c,nZZ,nZZ]){D:Value}(hD:aV w d 202 #[.string ⟨s.toArray⟩,D])(hrow:fP w (fun x=>x≠gt) A (fJ T))(hc:T.length<=c):
  Calls aBS 53 #[pZZ gt,nZZ,kZZ 0,kZZ 0] w fun e w'=> ∃n:Nat,e=.returned (vZZ n)/\fG (Old w) gt w w'/\vX w' (fun x=>w.heap.size<=x) gt d A c T (Tr.bV s T (T.length+1) 0).1 (Tr.sP s T (Tr.bV s T (T.length+1) 0).2):=by
 obtain⟨k0,ki,kz0,kz1,kz2⟩:=info_parts Ec;obtain⟨i0,ji,iW,jz1,iV⟩:=info_parts qF;have hdg:d≠gt:=fun e=>by subst e;have:=hB.symm.trans hD;injection this with this;injection this with _ this;exact absurd this (by decide)
 have hgl:=hB.lt;have hdl:=hD.lt;have hd0:=nR w (.cells #[pZZ gt,kZZ 0,kZZ 0,kZZ 0] 205);obtain⟨g,hg⟩:=dC w.heap.size;have HG:aC (w.heap.size<=g):=by show _<=_;omega
 have S:Mq (fun x=>x<w.heap.size+1) g gt d A c s T w 0 [] [] (w.alloc (.cells #[pZZ gt,kZZ 0,kZZ 0,kZZ 0] 205)):=by refine⟨fG.below hd0 (Old.WK w),⟨0,0,⟨⟨by rw[hg];exact aV.new _ _ _,by show _<_;omega,by show _<_;omega,by omega,d,A,c,D,(),_,_,hB.alloc _,by show _<_;omega,by omega,hD.alloc _,hrow.keep hd0.size fun x hx hl=>⟨hd0.block x hl,by show _<_;omega,by omega⟩,rfl⟩,fun x hx=>by simp;exact hx,aBZ _,aBZ _⟩⟩,⟨none,0,[],none,0,[],⟨hB.alloc _,aCW _ _ _ _,aCW _ _ _ _,fun q hq=>by simp[aCZ] at hq,fun q hq=>by simp[aCZ] at hq,rfl,rfl⟩⟩,hrow.keep hd0.size fun x hx hl=>⟨hd0.block x hl,by show _<_;omega,by omega,hx⟩⟩
 obtain⟨K,hK⟩: ∃K:Nat->Prop,K=fun x=>x<w.heap.size+1:=⟨_,rfl⟩
 have HKw:aC (∀x,¬K x->w.heap.size<=x):=fun x hx=>by rw[hK] at hx;have hx: ¬x<w.heap.size+1:=hx;omega
 rw[<-hK] at S;clear hB hD hrow hd0 hgl hdl hK;obtain⟨all,hal⟩:=dC (Tr.bV s T (T.length+1) 0);rw[<-hal];have Hal:aC (Tr.bV s T (T.length+1) 0=all):=hal.symm;clear hal
 go_enter func53,ntmps53
 go_upto_region 2 with fail;rw[<-hg];clear hg;generalize w.alloc _=w1 at *;go_wp2_with fail
 go_loopg [1,10] (T.length) (fun m v u wr=> ∃(i:Nat) (ks:List Tr.Kd),v=nZZ/\u=kZZ (ks.length:Int)/\T.length-i<=m/\Mq K g gt d A c s T w i ks [] wr/\ks.length<=i/\aC (ks++(Tr.bV s T (T.length+1) i).1=all.1)/\aC ((Tr.bV s T (T.length+1) i).2=all.2))
 case atStart=>exact⟨0,[],rfl,rfl,Nat.sub_le _ _,S,aBT _,by show _=_;rw[Hal.o];rfl,by show _=_;rw[Hal.o]⟩
 case round=>
  clear S Hal;obtain⟨i,ks,rfl,rfl,hm,S,hkl,Bw,Bv⟩:=hrel;have hS:=fun m=>S.drewN m
  obtain⟨b,n,R⟩:=S.R;have hi:=R.hi;have hnx:=fun m=>pF (R.drewN m).rs hi (by have:=X.hT;omega)
  obtain⟨Av,cv,vs,At,ct,us,O⟩:=S.O;have t1:=O.blk.cell 1;simp at t1;have hT:=X.hT;have hkl2:ks.length<=4194304:=by omega
  by_cases hlt:Tr.aH T i<T.length
  ·have i1:((Tr.aH T i:Nat):Int)<(T.length:Int):=(by omega);have hst:=Tr.RL s T i hi hlt;have hgt:=Tr.FI s T i hi hlt;rw[hst] at Bw Bv;have Bw:aC ((ks++[Tr.ah s T i])++(Tr.bV s T (T.length+1) (Tr.dU s T i).2).1=all.1):=(by show _=_;rw[<-Bw.o,aCL];rfl);have Bv:aC ((Tr.bV s T (T.length+1) (Tr.dU s T i).2).2=all.2):=Bv;have PW:=aB hgt;have Hm:=aB hm;have Hkl:=aB hkl;have Hi:=aB hi;clear hst hgt hlt R O S hm hkl hi hT;generalize Tr.aH T i=nx at *;go_wp2_with fail
   go_quiet ((go_at_call 104;exact aFV (hnx _)))
   have S:=hS nq;clear hS hnx t1;generalize wr.drewN nq=w2 at *;go_wp2_with fail
   go_loopg [1] 0 (fun q v wr=>v=nZZ/\Mq K g gt d A c s T w i ks [] wr)
   case atStart=>exact⟨rfl,S⟩
   case round=>
    clear S;obtain⟨rfl,S⟩:=hrel;have hS:=fun m=>S.drewN m
    clear S;go_wp2_with fail
    go_quiet (fail)
    have S:=hS nq;clear hS;generalize World.drewN _ nq=w3 at *;have hS:=fun m=>S.drewN m
    clear S;go_wp2_with fail
    go_quiet (fail)
    have S:=hS nq;clear hS;generalize w3.drewN nq=w4 at *;obtain⟨Av,cv,vs,At,ct,us,O⟩:=S.O;go_wp2_with fail;refine aL 11 (fun w':World=>w'.cell? ⟨gt,2,none⟩=some (.slice Av ks.length cv)) ?_;have hd:Below w4.heap.size w4 w4.drew:=(aBU _ _).drew;have O:=O.below hd;have S:=S.below hd;clear hd;generalize w4.drew=w5 at *;obtain⟨b,n,R⟩:=S.R;have hrow:=S.row;have hF:=S.F;clear S;have t2:=O.blk.cell 2;simp at t2;have hS0:(fun w':World=>w'.cell? ⟨gt,2,none⟩=some (.slice Av ks.length cv)) w5:=t2
    iterate 6 refine aO 0 hS0 ?_
    clear hS0;have hkd:=Rk X R.old;refine aA 6 fun C hC=> ?_
    go_simp
    ((with_reducible refine hkd.mono ?_))
    clear hkd;intro e w6 h6;obtain⟨q,rfl,zD,R6,Sm⟩:=h6;have hgt:K gt:=R.rs.tr.kt;have hgK:K g:=R.rs.tr.kg;have hne:gt≠g:=R.rs.tr.ne;have vQ:=R.dL;have O6:=O.cZ zD hgK hne;have hA6K:=zD.old vQ;have R6:=R.p9 R6 hA6K;have hgg:w.heap.size<=g:=HG.o;have Xz:fG (Old w) gt w w6:=hF.trans ⟨zD.size,fun x hx _=>zD.sI x (aCF hx hF.size) (by have hx:x<w.heap.size:=hx;omega),zD.calm⟩;have Rz:fP w6 (fun x=>K x/\x≠g/\x≠gt) A (fJ T):=hrow.keep zD.size fun x hx hl=>⟨zD.sI x hl hx.2.1,hx⟩
    have hp:dE w6 (fun x=> ¬K x/\some x≠(aBX Av ks.length cv).ownBlock/\some x≠(aBX At ([]:List Tr.PT).length ct).ownBlock) (Tr.dU s T i).1 (.iface 114 (pZZ q)):=
     dE.keep (aBT _) (fun x hF _=>⟨rfl,fun hk=>hF (vQ x hk),fun e=>hF (O.IW.lt x e.symm).2,fun e=>hF (O.FD.lt x e.symm).2⟩) _ _ Sm
    clear O R hF hrow Sm zD hA6K;have t2:=O6.blk.cell 2;simp at t2;refine hC.out _ _ (fun _=>t2) ?_;clear hC C;have hkl2:ks.length<=4194304:=(by have:=Hkl.o;have:=Hi.o;have:=X.hT;omega);have hgl:=O6.blk.lt;refine aA 7 fun C hC=> ?_
    go_simp;refine hC.out _ _ (fun _=>(aJ _ _ _ _ hgl).trans t2) ?_;clear hC C;refine aA 8 fun C hC=> ?_
    refine step_append_lies _ (by rfl) _ _ _ (by rfl) 0 116 k0 _ 4 32 underlying112 ki kz0 kz1 kz2 rfl (by omega) (.slice Av ks.length cv) ks.length vs (by rfl) (O6.IW.alloc (.cells #[pZZ q,kZZ (Tr.dD s T i:Int),vZZ i,kZZ ((Tr.dU s T i).2:Int)] 116)) ⟨w6.heap.size,0,none⟩ 1 1 #[pZZ q,kZZ (Tr.dD s T i:Int),vZZ i,kZZ ((Tr.dU s T i).2:Int)].toList (by rfl) (by rfl) (aCK (heap_alloc_new w6 _)) (by simp[aCA]) (by omega) (by unfold maxLen;omega) (by omega) (aBZ _) (w6.heap.size+1) (by simp) ?_;intro gg cap' w7 ZL hgrow hat P_;have kX:=O6.aBp R6.dL hgt (k:=Tr.ah s T i) hp ZL hgrow hat;have V_:=(O6.blk.alloc (.cells #[pZZ q,kZZ (Tr.dD s T i:Int),vZZ i,kZZ ((Tr.dU s T i).2:Int)] 116)).grown hgrow O6.kne;have b2:=V_.cell 2;have bf:=V_.frozen 2;simp at b2;refine hC.out _ _ (fun _=>b2) ?_;clear hC C;refine aA 9 fun C hC=> ?_
    go_simp;refine hC.out _ _ (fun _=>b2) ?_;clear hC C;refine aA 10 fun C hC=> ?_
    go_simp;refine hC.out _ _ (fun _=>b2) ?_;clear hC C;refine aA 11 fun C hC=> ?_
    go_simp;refine hC.out _ _ (fun h=>absurd rfl h) ?_;clear hC C;refine aR ?_;obtain⟨O7,hold,H_,Tc⟩:=kX;have uo:(ks++[Tr.ah s T i]).length=ks.length+1:=(by simp);have hs7:w6.heap.size<=(aCI w7 ⟨gt,2,none⟩ (.slice (some ⟨gg,0,none⟩) (ks.length+1) cap')).heap.size:=(by simp[aCI];omega);have zQ: ∀x,K x->x≠gt->(aCI w7 ⟨gt,2,none⟩ (.slice (some ⟨gg,0,none⟩) (ks.length+1) cap')).heap[x]? =w6.heap[x]? :=fun x hx hne=>hold x (R6.dL x hx) hne (fun e=>O6.ru x e.symm hx)
    have R7:=R6.tree hs7 zQ O6.blk O7.blk Rz hdg;have Xy:fG (Old w) gt w (aCI w7 ⟨gt,2,none⟩ (.slice (some ⟨gg,0,none⟩) (ks.length+1) cap')):=⟨by have:=Xz.size;omega,fun x hx hne=>(zQ x (aGT fun hk=>by have:=HKw.o x hk;have hx:x<w.heap.size:=hx;omega) hne).trans (Xz.sI x hx hne),Xz.calm.trans Tc⟩;have tF:fP (aCI w7 ⟨gt,2,none⟩ (.slice (some ⟨gg,0,none⟩) (ks.length+1) cap')) (fun x=>K x/\x≠g/\x≠gt) A (fJ T):=Rz.keep hs7 fun x hx _=>⟨zQ x hx.1 hx.2.2,hx⟩
    have S:Mq K g gt d A c s T w (Tr.dU s T i).2 (ks++[Tr.ah s T i]) [] (aCI w7 ⟨gt,2,none⟩ (.slice (some ⟨gg,0,none⟩) (ks.length+1) cap')):=⟨Xy,⟨_,_,R7⟩,⟨_,_,_,_,_,_,O7⟩,tF⟩;clear O7 hold H_ Tc hs7 zQ R7 Xy tF O6 hp R6 Xz Rz b2 bf V_ t2 ZL hgrow hat P_ hgl;generalize(aCI _ _ (.slice (some ⟨gg,0,none⟩) (ks.length+1) cap'))=w8 at *;have c1:aCQ.wrap ((ks.length:Int)+1)=(ks.length:Int)+1:=aCV _ (by omega);have hi2:(Tr.dU s T i).2<=T.length:=(by obtain⟨_,_,R⟩:=S.R;exact R.hi);generalize(Tr.dU s T i).2=i2 at *;go_wp2_with fail
    go_roundg (T.length-i2)
    case rel=>exact⟨i2,_,rfl,by rw[uo];go_num,aBT _,S,by have:=PW.o;have:=Hkl.o;rw[uo];omega,Bw,Bv⟩
    case measure=>have:=PW.o;have:=Hm.o;omega
  ·have hst:=Tr.RJ s T i hlt;rw[hst] at Bw Bv;have ym:aC (ks=all.1):=(by show _=_;have:=Bw.o;rwa [List.append_nil] at this);have Hi2:aC (i=all.2):=Bv.o;have i1: ¬((Tr.aH T i:Nat):Int)<(T.length:Int):=(by omega);have i2:decide (Tr.aH T i<T.length)=false:=(by simpa using hlt);have i3:(i:Int)<=(T.length:Int):=(by omega);have i4:=iZ i;have Hm:=aB hm;have Hkl:=aB hkl;clear hst Bw Bv hm hkl R O;generalize Tr.aH T i=nx at *;clear hlt;go_wp2_with fail
   go_quiet ((go_at_call 104;exact aFV (hnx _)))
   clear S;have S:=hS nq;clear hS hnx t1;generalize wr.drewN nq=w2 at *;go_upto_region 16 with fail
   go_cut [105,106,107] (fun v z y wc=> ∃A' c',v=.slice A' (T.length-i) c'/\z=kZZ ((T.length-i:Nat):Int)/\y=kZZ 0/\Mq K g gt d A c s T w i ks [] wc/\fP wc (fun x=>K x/\x≠g/\x≠gt) A' (fJ (T.drop i)))
   case first=>
    have hrow:fP w2 (fun x=>K x/\x≠g/\x≠gt) A (fJ T):=S.row;have hS:=fun m=>S.drewN m
    obtain⟨b,n,R⟩:=S.R;have hi:=R.hi;obtain⟨g0,g1,_,_⟩:=R.rs.cells;obtain⟨Av,cv,vs,At,ct,us,O⟩:=S.O;have t1:=O.blk.cell 1;simp at t1;have i6:(i:Int)<=(c:Int):=(by omega);have i7:(T.length:Int)<=(c:Int):=(by omega);have Hi:=aB hi;have Hc:=aB hc;clear R O S hi;rcases A with _|⟨ab,ao,ak⟩
    ·have hT0: ¬0<T.length:=fun h=>(by obtain⟨b,o,e,_⟩:=hrow (by have:=rG T;omega);cases e);have hTn:T=[]:=aDV (by omega);have hin:i=0:=(by have:=Hi.o;omega);have Hre:aC (∀m A',fP (w2.drewN m) (fun x=>K x/\x≠g/\x≠gt) A' (fJ (T.drop i))):=fun m A' hn=>(by rw[hTn] at hn;exact absurd hn (by simp[fJ]));clear hrow hT0 hTn;subst hin;go_wp2_with fail
     go_quiet (fail)
     go_wp2_with fail
     all_goals go_meet
     exact⟨_,_,rfl,rfl,rfl,hS nq,Hre.o nq _⟩
    ·have yf:aC (∀m,i<T.length->fP (w2.drewN m) (fun x=>K x/\x≠g/\x≠gt) (some ⟨ab,ao+i*3,ak⟩) (fJ (T.drop i))):=fun m hlt hn=>by
      obtain⟨b,o,e,FP,hl,hcell⟩:=hrow (by have:=rG T;omega);injection e with e;injection e with e1 e2 e3;subst e1 e2 e3;refine⟨ab,ao+i*3,rfl,FP,hl,fun j u hu=> ?_⟩;have hj:(fJ T)[i*3+j]? =some u:=by rw[<-XG];exact hu
      have:=hcell _ _ hj;rw[<-aDU] at this;exact this
     have Hre:aC (∀m A',i=T.length->fP (w2.drewN m) (fun x=>K x/\x≠g/\x≠gt) A' (fJ (T.drop i))):=fun m A' he hn=>(by rw[he,List.drop_length] at hn;exact absurd hn (by simp[fJ]));have Hak:aC (i<T.length->ak=none):=fun hlt=>(by obtain⟨b,o,e,_⟩:=hrow (by have:=rG T;omega);injection e with e;injection e with e1 e2 e3);clear hrow;go_wp2_with fail
     go_quiet (fail)
     go_wp2_with fail
     all_goals go_meet
     ·rename_i hci;exact⟨_,_,rfl,rfl,rfl,hS nq,Hre.o nq _ (by have:=Hi.o;have:=Hc.o;omega)⟩
     ·by_cases he:i=T.length
      ·exact⟨_,_,rfl,rfl,rfl,hS nq,Hre.o nq _ he⟩
      ·obtain rfl:=Hak.o (by have:=Hi.o;omega);have hrw:=yf.o nq (by have:=Hi.o;omega);have ha:(⟨ab,ao,none⟩:Addr).add (i*3)=⟨ab,ao+i*3,none⟩:=by
        simp only[Addr.add];split
        ·rename_i h0;rw[h0,Nat.add_zero]
        ·rfl
       exact⟨_,_,rfl,rfl,rfl,hS nq,by rw[ha];exact hrw⟩
   case rest=>
   clear S;obtain⟨A',c',rfl,rfl,rfl,S,hrow'⟩:=hcut;have hi:i<=T.length:=(by obtain⟨_,_,R⟩:=S.R;exact R.hi);have hall:Tr.sP s T all.2=bS s T 0 i T.length:=(by rw[<-Hi2.o];unfold Tr.sP bS;rw[List.take_of_length_le (by rw[aCB];exact aBT _)]);have JF:=aB hall;have Hi:=aB hi;clear hall Hi2 Hm hi i2 i3;go_wp2_with fail
   go_loopg [107] (T.length-i) (fun m v wr=> ∃k:Nat,v=vZZ k/\k<=T.length-i/\T.length-i-k<=m/\Mq K g gt d A c s T w i ks (bS s T 0 i (i+k)) wr/\fP wr (fun x=>K x/\x≠g/\x≠gt) A' (fJ (T.drop i)))
   case atStart=>exact⟨0,rfl,aBZ _,aBT _,by rw[Nat.add_zero,sW];exact S,hrow'⟩
   case round=>
    clear S hrow';obtain⟨k,rfl,hk,hm,S,hrow'⟩:=hrel;have Hm:=aB hm;have Hk:=aB hk
    by_cases hlt:k<T.length-i
    ·have j0:=iZ k;have j1:(k:Int)<((T.length-i:Nat):Int):=(by omega);have hlt2:i+k<T.length:=(by omega);have hdl:(T.drop i).length=T.length-i:=aCB ..;have Sd:=hrow';obtain⟨br,o,rfl,_,hbl,q0,q1,q2⟩:=hrow'.tk (k:=k) (by rw[hdl];exact hlt);have hge:(T.drop i)[k]'(by rw[hdl];exact hlt)=T[i+k]:=List.getElem_drop ..;rw[hge] at q0 q1 q2;clear hrow';have HL:=aB (sV s T 0 i (i+k) (Nat.le_add_right _ _) hlt2);have hll:=vK s T 0 i (i+k);obtain⟨h1,h2,h3⟩:=X.good.at_ hlt2;have EG:aC (Tr.gY s 0 T[i+k]=.leaf T[i+k].1 (Tr.jI s T[i+k]) (T[i+k].2.1-0)):=rfl;have uU:=aB (yG s T[i+k]);generalize T[i+k]=t at *;obtain⟨tk,ta,tl⟩:=t;dsimp only at h1 h2 h3 q0 q1 q2 EG uU;have HL2:aC (bS s T 0 i (i+(k+1))=bS s T 0 i (i+k)++[.leaf tk (Tr.jI s (tk,ta,tl)) ta]):=(by show _=_;rw[<-aDU,HL.o,EG.o,Nat.sub_zero]);have hpl:(bS s T 0 i (i+k)).length<=60000000:=(by omega);have hs:=X.hs;have a1:(0:Int)<=(ta:Int)+tl:=(by omega);have a0:aCQ.wrap ((ta:Int)+tl)=(ta:Int)+tl:=aCV _ (by omega);have a2:((ta:Int)+tl).toNat=ta+tl:=(by omega);have a3:(ta:Int)+tl<=(s.length:Int):=(by omega);have a4:(ta:Int)<=(ta:Int)+tl:=(by omega);have a5:ta<=ta+tl:=(by omega);have a6:ta+tl<=s.length:=h1;have yg:aC (∀w',Below wr.heap.size wr w'->fP w' (fun x=>K x/\x≠g/\x≠gt) (some ⟨br,o,none⟩) (fJ (T.drop i))):=fun w' hb=>Sd.keep hb.size fun x hx hl=>⟨hb.block x hl,hx⟩
     have bZ:=aB hlt;clear HL EG hll hlt2 hdl hge hT hkl2 h1 h2 h3 hs Sd;generalize bS s T 0 i (i+k)=ts at *;obtain⟨bx,hbx⟩:=dC wr.heap.size;have hd:=nR wr (.cells #[vZZ tk,vZZ ta,vZZ tl] 127);have S:=S.below hd;have hrow2:=yg.o _ hd;have hBx:aV (wr.alloc (.cells #[vZZ tk,vZZ ta,vZZ tl] 127)) bx 127 #[vZZ tk,vZZ ta,vZZ tl]:=(by rw[hbx];exact aV.new _ _ _);clear hd yg;go_upto_region 19 with fail;rw[<-hbx];clear hbx q0 q1 q2 hbl;generalize(wr.alloc _)=w2 at *;obtain⟨Av,cv,vs,At,ct,us,O⟩:=S.O;refine aL 26 (fun w':World=>w'.cell? ⟨gt,3,none⟩=some (.slice At ts.length ct)/\w'.cell? ⟨bx,0,none⟩=some (vZZ tk)/\w'.cell? ⟨bx,1,none⟩=some (vZZ ta)/\w'.cell? ⟨bx,2,none⟩=some (vZZ tl)) ?_;have hd:Below w2.heap.size w2 w2.drew:=(aBU _ _).drew;have O:=O.below hd;have S:=S.below hd;have hBx:=hBx.drew;have hrow2:=hrow2.keep (F':=fun x=>K x/\x≠g/\x≠gt) hd.size fun x hx hl=>⟨hd.block x hl,hx⟩
     clear hd;generalize w2.drew=w3 at *;obtain⟨b,n,R⟩:=S.R;have hrow:=S.row;have hF:=S.F;clear S;have t3:=O.blk.cell 3;have b0:=hBx.cell 0;have b1:=hBx.cell 1;have b2:=hBx.cell 2;simp at t3 b0 b1 b2;obtain⟨d',_,_,t0,_,d0,_⟩:=R.rs.tr.cells;have hS0:(fun w':World=>w'.cell? ⟨gt,3,none⟩=some (.slice At ts.length ct)/\w'.cell? ⟨bx,0,none⟩=some (vZZ tk)/\w'.cell? ⟨bx,1,none⟩=some (vZZ ta)/\w'.cell? ⟨bx,2,none⟩=some (vZZ tl)) w3:=⟨t3,b0,b1,b2⟩
     iterate 8 refine aO 0 hS0 ?_
     iterate 7 refine aO 9 hS0 ?_
     iterate 2 refine aO 17 hS0 ?_
     clear hS0;refine aA 8 fun C hC=> ?_
     go_simp
     ((with_reducible refine(uZ t0 d0).mono ?_))
     rintro e w4 ⟨rfl,rfl⟩;refine hC.out _ _ (fun _=>⟨t3,b0,b1,b2⟩) ?_;clear hC C;refine aA 16 fun C hC=> ?_
     go_simp;refine hC.out _ _ (fun _=>⟨t3,b0,b1,b2⟩) ?_;clear hC C;refine aA 19 fun C hC=> ?_
     go_simp;refine hC.out _ _ (fun _=>⟨t3,b0,b1,b2⟩) ?_;clear hC C;have hd:=nR w4 (.cells #[vZZ tk,.string ((⟨s.toArray⟩:ByteArray).extract ta (ta+tl)),vZZ ta] 173);have hBg:aV (w4.alloc (.cells #[vZZ tk,.string ((⟨s.toArray⟩:ByteArray).extract ta (ta+tl)),vZZ ta] 173)) w4.heap.size 173 #[vZZ tk,.string ((⟨s.toArray⟩:ByteArray).extract ta (ta+tl)),vZZ ta]:=aV.new _ _ _;have hp:dE (w4.alloc (.cells #[vZZ tk,.string ((⟨s.toArray⟩:ByteArray).extract ta (ta+tl)),vZZ ta] 173)) (fun x=> ¬K x/\some x≠(aBX Av ks.length cv).ownBlock/\some x≠(aBX At ts.length ct).ownBlock) (.leaf tk (Tr.jI s (tk,ta,tl)) ta) (.iface 171 (.pointer (some ⟨w4.heap.size,0,none⟩))):=
      ⟨w4.heap.size,rfl,⟨fun hk=>aDR _ (R.dL _ hk),fun e=>by have:=(O.IW.lt _ e.symm).2;omega,fun e=>by have:=(O.FD.lt _ e.symm).2;omega⟩,by rw[<-show Value.string ((⟨s.toArray⟩:ByteArray).extract ta (ta+tl))=.string ⟨(Tr.jI s (tk,ta,tl)).toArray⟩from uU.o];exact hBg⟩
     have pJ:=hBx.lt;have hgl:=O.blk.lt;refine aA 20 fun C hC=> ?_
     go_simp;have hA:fG (Old w) gt w (w4.alloc (.cells #[vZZ tk,.string ((⟨s.toArray⟩:ByteArray).extract ta (ta+tl)),vZZ ta] 173)):=hF.trans ⟨hd.size,fun x hx _=>hd.block x (aCF hx hF.size),Calm.below hd⟩;have R:=R.below hd;have O:=O.below hd;have hrow:fP (w4.alloc (.cells #[vZZ tk,.string ((⟨s.toArray⟩:ByteArray).extract ta (ta+tl)),vZZ ta] 173)) (fun x=>K x/\x≠g/\x≠gt) A (fJ T):=hrow.keep hd.size fun x hx hl=>⟨hd.block x hl,hx⟩
     have hBx:=hBx.alloc (.cells #[vZZ tk,.string ((⟨s.toArray⟩:ByteArray).extract ta (ta+tl)),vZZ ta] 173);have hrow2:=hrow2.keep (F':=fun x=>K x/\x≠g/\x≠gt) hd.size fun x hx hl=>⟨hd.block x hl,hx⟩
     have t3:=O.blk.cell 3;have b0:=hBx.cell 0;have b1:=hBx.cell 1;have b2:=hBx.cell 2;simp at t3 b0 b1 b2;refine hC.out _ _ (fun _=>⟨by simpa using t3,by simpa using b0,by simpa using b1,by simpa using b2⟩) ?_;clear hC C hd hBg t0 d0 hF;obtain⟨q,hq⟩:=dC w4.heap.size;rw[<-hq] at hp⊢;clear hq;generalize(w4.alloc _)=w6 at *;refine aA 21 fun C hC=> ?_
     go_simp;refine hC.out _ _ (fun _=>⟨t3,b0,b1,b2⟩) ?_;clear hC C;have hgl:=O.blk.lt;have hbl:=hBx.lt;refine aA 22 fun C hC=> ?_
     go_simp;refine hC.out _ _ (fun _=>⟨(aJ _ _ _ _ hgl).trans t3,(aJ _ _ _ _ hbl).trans b0,(aJ _ _ _ _ hbl).trans b1,(aJ _ _ _ _ hbl).trans b2⟩) ?_;clear hC C;refine aA 23 fun C hC=> ?_
     refine step_append_lies _ (by rfl) _ _ _ (by rfl) 0 122 i0 _ 1 16 underlying119 ji iW jz1 iV rfl (by omega) (.slice At ts.length ct) ts.length us (by rfl) (O.FD.alloc (.cells #[.iface 171 (pZZ q)] 122)) ⟨w6.heap.size,0,none⟩ 1 1 [.iface 171 (pZZ q)] (by rfl) (by rfl) (aCK (heap_alloc_new w6 _)) (by simp[aCA]) (by omega) (by unfold maxLen;omega) (by omega) (aBZ _) (w6.heap.size+1) (by simp) ?_;intro gg cap' w7 ZL hgrow hat P_;have kX:=O.aBn R.dL R.rs.tr.kt hp ZL hgrow hat;have V_:=(O.blk.alloc (.cells #[.iface 171 (pZZ q)] 122)).grown hgrow O.tne;have e3:=V_.cell 3;have bf:=V_.frozen 3;have hx7:=(hBx.alloc (.cells #[.iface 171 (pZZ q)] 122)).grown hgrow (own_ne O.FD hBx (by decide));have e0:=hx7.cell 0;have e1:=hx7.cell 1;have e2:=hx7.cell 2;simp at e3 e0 e1 e2;refine hC.out _ _ (fun _=>⟨e3,e0,e1,e2⟩) ?_;clear hC C;refine aA 24 fun C hC=> ?_
     go_simp;refine hC.out _ _ (fun _=>⟨e3,e0,e1,e2⟩) ?_;clear hC C;refine aA 25 fun C hC=> ?_
     go_simp;refine hC.out _ _ (fun _=>⟨e3,e0,e1,e2⟩) ?_;clear hC C;refine aA 26 fun C hC=> ?_
     go_simp;refine hC.out _ _ (fun h=>absurd rfl h) ?_;clear hC C;refine aR ?_;obtain⟨O7,hold,H_,Tc⟩:=kX;have hs7:w6.heap.size<=(aCI w7 ⟨gt,3,none⟩ (.slice (some ⟨gg,0,none⟩) (ts.length+1) cap')).heap.size:=(by simp[aCI];omega);have zQ: ∀x,K x->x≠gt->(aCI w7 ⟨gt,3,none⟩ (.slice (some ⟨gg,0,none⟩) (ts.length+1) cap')).heap[x]? =w6.heap[x]? :=fun x hx hne=>hold x (R.dL x hx) hne (fun e=>O.rq x e.symm hx)
     have R7:=R.tree hs7 zQ O.blk O7.blk hrow hdg;have Xy:fG (Old w) gt w (aCI w7 ⟨gt,3,none⟩ (.slice (some ⟨gg,0,none⟩) (ts.length+1) cap')):=⟨by have:=hA.size;omega,fun x hx hne=>(zQ x (aGT fun hk=>by have:=HKw.o x hk;have hx:x<w.heap.size:=hx;omega) hne).trans (hA.sI x hx hne),hA.calm.trans Tc⟩;have tF:fP (aCI w7 ⟨gt,3,none⟩ (.slice (some ⟨gg,0,none⟩) (ts.length+1) cap')) (fun x=>K x/\x≠g/\x≠gt) A (fJ T):=hrow.keep hs7 fun x hx _=>⟨zQ x hx.1 hx.2.2,hx⟩
     have zP:fP (aCI w7 ⟨gt,3,none⟩ (.slice (some ⟨gg,0,none⟩) (ts.length+1) cap')) (fun x=>K x/\x≠g/\x≠gt) (some ⟨br,o,none⟩) (fJ (T.drop i)):=hrow2.keep hs7 fun x hx _=>⟨zQ x hx.1 hx.2.2,hx⟩
     rw[<-HL2.o] at O7;have S:Mq K g gt d A c s T w i ks (bS s T 0 i (i+(k+1))) (aCI w7 ⟨gt,3,none⟩ (.slice (some ⟨gg,0,none⟩) (ts.length+1) cap')):=⟨Xy,⟨_,_,R7⟩,⟨_,_,_,_,_,_,O7⟩,tF⟩;clear O7 hold H_ Tc hs7 zQ R7 Xy tF O hp R hA hrow hrow2 hBx e0 e1 e2 e3 bf V_ hx7 ZL hgrow hat P_ hgl hbl t3 b0 b1 b2 a0 a1 a2 a3 a4 a5 a6 pJ;generalize(aCI _ _ (.slice (some ⟨gg,0,none⟩) (ts.length+1) cap'))=w8 at *;have c1:=uX k (by have:=Hi.o;have:=X.hT;have:=bZ.o;omega);go_wp2_with fail
     go_roundg (T.length-i-(k+1))
     case rel=>exact⟨k+1,by go_num,by have:=bZ.o;omega,aBT _,S,zP⟩
     case measure=>have:=bZ.o;have:=Hm.o;omega
    ·have hke:i+k=T.length:=(by have:=Hi.o;omega);have j1: ¬(k:Int)<((T.length-i:Nat):Int):=(by omega);have j2:decide (k<T.length-i)=false:=(by simpa using hlt);rw[hke] at S;clear hke hlt hrow' hk hm;go_wp2_with fail;go_ret;obtain⟨Av,cv,vs,At,ct,us,O⟩:=S.O;refine⟨⟨ks.length,rfl⟩,S.F,?_⟩;rw[JF.o,<-ym.o];exact O.done HKw.o
end
theorem Yw(x:Tk): ∀u∈Cv x,u.oneCell'=true:=by
 intro u hu;simp[Cv] at hu;rcases hu with rfl|rfl|rfl<;>rfl
theorem Pn(l:List Tk): ∀u∈fJ l,u.oneCell'=true:=by
 intro u hu;simp only[fJ,List.mem_flatMap] at hu;obtain⟨x,_,hx⟩:=hu;exact Yw x u hx
def TkAt(w:World)(A:Option Addr)(l:List Tk):Prop:=
 (A=none->l=[])/\∀ad,A=some ad->∀j u,(fJ l)[j]? =some u->w.cell? (ad.add j)=some u
theorem Rd.tkAt {B:Nat}{l:List Tk}(h:Rd w B 3 A l.length (fJ l)):TkAt w A l:=by
 constructor
 ·intro hA;rcases aFU l.length with h0|h0
  ·exact aDV h0
  ·obtain⟨b,o,e,_⟩:=h.2 h0;rw[hA] at e;cases e
 ·intro ad hA j u hu;have hj:j<l.length*3:=by
   have:=(aCD.1 hu).1
   rwa [rG] at this
  obtain⟨b,o,e,_,hc⟩:=h.2 (by omega);rw[hA] at e;injection e with e;subst e;have:=hc j u hu;unfold Addr.add;split
  ·rename_i h0;subst h0;simpa using this
  ·exact this
theorem XH(A:Option Addr)(c:Nat)(l:List Tk)(w:World)(h:TkAt w A l)(hc:A=none->c=0)(hl:l.length<=16777216):
  Calls aBS 103 #[.slice A l.length c] w fun e w'=> ∃v,e=.returned v/\w'.ownsRow w.heap.size 127 3 v l.length (fJ l)/\Below w.heap.size w w':=by
 obtain⟨i0,ji,iW,jz1,iV⟩:=info_parts W9;cases A with
 |none=>
  have h1:=h.1 rfl;have h2:=hc rfl;subst h1 h2;have hnl:=fun w:World=>aGN (P:=aBS) w 124 127 none 0 0 0 0 underlying124
  go_enter func103,ntmps103
  go_wp2
  go_ret;exact⟨_,rfl,aCW _ _ _ _,aBU _ _⟩
 |some ad=>
  have h2:=h.2 ad rfl;have hcl:=rG l;have hO:=World.ownsRow_lit (base:=w.heap.size) (e:=127) (size:=3) w #[] 0 (aBT _) (by unfold maxLen;omega) rfl;have h3: ∀j u,(fJ l)[j]? =some u->(w.alloc (.cells #[] 127)).cell? (ad.add j)=some u:=fun j u hu=>(by have h4:=h2 j u hu;have h5:=World.block_lt_of_cell? w _ h4;rw[aCM (aEQ w _ _ h5)];exact h4);have H3:=aB h3;have hb:=nR w (.cells #[] 127);clear h2 h3 h;have hnl:=fun w:World=>aGN (P:=aBS) w 124 127 (some ad) l.length c 0 0 underlying124
  go_enter func103,ntmps103
  go_wp2_with (at_builtin;refine wpList_append_own _ rfl _ _ 124 rfl w.heap.size 127 i0 _ 3 24 underlying124 ji iW jz1 iV rfl (by omega) _ 0 _ rfl hO ad l.length c (fJ l) rfl hcl H3.o (Pn l) (by unfold maxLen;omega) (by omega) (by simp) ?_;intro v' w4 qG hgrow _);go_ret;exact⟨v',rfl,by simpa using qG,hb.grown hgrow hb.size fun g hg=>(hO.lt g hg).1⟩
theorem Qp{base:Nat}{e:TypeId}{n:Nat}{xs:List Value}(h:w.ownsRow base e 3 (.slice A n c) n xs):(A=none->n=0)/\Rd w w.heap.size 3 A n xs:=by
 refine⟨fun hA=> ?_,Rd.rO h⟩;rcases aFU n with h0|h0
 ·exact h0
 ·obtain⟨b,o,e,_⟩:=(Rd.rO h).2 h0;rw[hA] at e;cases e
def TD(w:World)(g:Nat)(s:Bs)(T:List Tk):Prop:=
 ∃A c,aV w g 202 #[.string ⟨s.toArray⟩,.slice A T.length c]/\(A=none->c=0)/\T.length<=c/\Rd w w.heap.size 3 A T.length (fJ T)
theorem TD.below {s:Bs}{T:List Tk}(h:TD w g s T)(hb:Below w.heap.size w w'):TD w' g s T:=by
 obtain⟨A,c,h1,h2,h3,h4⟩:=h;exact⟨A,c,h1.below hb h1.lt,h2,h3,(h4.below hb).more hb.size⟩
theorem UN(g:Nat)(s:Bs)(T:List Tk)(w:World)(h:TD w g s T)(hl:T.length<=16777216):
  Calls aBS 52 #[pZZ g] w fun e w'=> ∃A,e=.returned (.slice A T.length T.length)/\(∃c,w'.ownsRow w.heap.size 127 3 (.slice A T.length c) T.length (fJ T))/\Below w.heap.size w w':=by
 obtain⟨A,c,h1,h2,h3,h4⟩:=h;have c1:=h1.cell 1;simp at c1;have hcl:=XH A c T w h4.tkAt h2 hl
 go_enter func52,ntmps52
 go_wp2_with fail;refine hcl.mono ?_;rintro e w1 ⟨v,rfl,hown,hb1⟩;obtain⟨Av,cv,rfl,hle,hvn⟩:=gQ hown;go_wp2_with fail;refine(KI Av T.length cv _ hle hvn).mono ?_;rintro e w' ⟨rfl,rfl⟩;go_wp2_with fail;go_ret;exact⟨Av,rfl,⟨cv,hown⟩,hb1⟩
theorem Jj(s:Bs)(m:Int)(w:World)(hM:lN w m)(hT:T8 w)(hW:dJ w)(hl:s.length<=8388608):
  Calls aBS 51 #[.string ⟨s.toArray⟩] w fun e w'=> ∃g,e=.returned (pZZ g)/\w.heap.size<=g/\TD w' g s (Lx.dR 0 s)/\Below w.heap.size w w':=by
 have hk:=TL s m w hM hT hW hl;generalize Lx.dR 0 s=T at *
 go_enter func51,ntmps51
 go_wp2_with fail;refine hk.mono ?_;clear hk;rintro e w1 ⟨A,rfl,⟨cv,hown⟩,hb1⟩;obtain⟨hc,hrd⟩:=Qp hown;go_wp2_with fail;go_ret;have hbA:Below w.heap.size w (w1.alloc (.cells #[.string ⟨s.toArray⟩,.slice A T.length T.length] 202)):=hb1.alloc hb1.size _;exact⟨_,rfl,hb1.size,⟨A,T.length,aV.new _ _ _,hc,aBT _,(hrd.below ((aBU _ _).alloc (aBT _) _)).more (by simp)⟩,hbA⟩
mutual
def Tr.eO:Tr.PT->Bool
 | .leaf _ _ _=>false
 | .gap _ _ d=>d
 | .branch _ _ l=>Tr.dQ l
def Tr.dQ:List Tr.PT->Bool
 | []=>false
 |p::l=>Tr.eO p||Tr.dQ l
end
theorem Tr.yR (l m:List Tr.PT):Tr.dQ (l++m)=(Tr.dQ l||Tr.dQ m):=by
 induction l with
 |nil=>simp[Tr.dQ]
 |cons p l ih=>simp only[List.cons_append,Tr.dQ,ih,Bool.or_assoc]
def iG(k tok:Nat)(t:Bs)(v:Value):Array Value:=#[vZZ k,vZZ tok,.string ⟨t.toArray⟩,v,kZZ 0,kZZ 0,kZZ 0,kZZ 0,.bool false]
mutual
def wQ(w:World)(F:Nat->Prop):Tr.PT->List Nat->Value->Prop
 | .leaf k t _,fp,v=> ∃g,v=pZZ g/\fp=[g]/\F g/\aV w g 93 (iG 0 k t (nZZ))
 | .gap t _ _,fp,v=> ∃g,v=pZZ g/\fp=[g]/\F g/\aV w g 93 (iG 1 0 t (nZZ))
 | .branch k _ l,fp,v=> ∃g dB,v=pZZ g/\fp=g::dB/\F g/\∃A c vs,aV w g 93 (iG k 0 [] (.slice A l.length c))/\l.length<=c/\fP w F A vs/\gV w F l dB vs
def gV(w:World)(F:Nat->Prop):List Tr.PT->List Nat->List Value->Prop
 | [],dB,vs=>dB=[]/\vs=[]
 |p::l,dB,vs=> ∃fp kP v vs',dB=fp++kP/\vs=v::vs'/\wQ w F p fp v/\gV w F l kP vs'
end
section
variable{w w':World}{F F':Nat->Prop}
mutual
theorem wQ.keep (hs:w.heap.size<=w'.heap.size)(hk: ∀b,F b->b<w.heap.size->w'.heap[b]? =w.heap[b]? /\F' b): ∀(p:Tr.PT) (fp:List Nat) (v:Value),wQ w F p fp v->wQ w' F' p fp v
 | .leaf k t a,fp,v,h=>by obtain⟨g,e,ef,hF,hB⟩:=h;have:=hk g hF hB.lt;exact⟨g,e,ef,this.2,this.1.trans hB⟩
 | .gap t a d,fp,v,h=>by obtain⟨g,e,ef,hF,hB⟩:=h;have:=hk g hF hB.lt;exact⟨g,e,ef,this.2,this.1.trans hB⟩
 | .branch k a l,fp,v,h=>by obtain⟨g,dB,e,ef,hF,A,c,vs,hB,hc,hr,hp⟩:=h;have:=hk g hF hB.lt;exact⟨g,dB,e,ef,this.2,A,c,vs,this.1.trans hB,hc,hr.keep hs hk,gV.keep hs hk l dB vs hp⟩
theorem gV.keep (hs:w.heap.size<=w'.heap.size)(hk: ∀b,F b->b<w.heap.size->w'.heap[b]? =w.heap[b]? /\F' b): ∀(l:List Tr.PT) (dB:List Nat) (vs:List Value),gV w F l dB vs->gV w' F' l dB vs
 | [],dB,vs,h=>h
 |p::l,dB,vs,h=>by obtain⟨fp,kP,v,vs',ef,e,hp,hl⟩:=h;exact⟨fp,kP,v,vs',ef,e,wQ.keep hs hk p fp v hp,gV.keep hs hk l kP vs' hl⟩
end
mutual
theorem wQ.fp: ∀(p:Tr.PT) (fp:List Nat) (v:Value),wQ w F p fp v->∀x∈fp,F x/\x<w.heap.size
 | .leaf k t a,fp,v,h=>by obtain⟨g,e,rfl,hF,hB⟩:=h;intro x hx;simp only[aCH] at hx;subst hx;exact⟨hF,hB.lt⟩
 | .gap t a d,fp,v,h=>by obtain⟨g,e,rfl,hF,hB⟩:=h;intro x hx;simp only[aCH] at hx;subst hx;exact⟨hF,hB.lt⟩
 | .branch k a l,fp,v,h=>by
  obtain⟨g,dB,e,rfl,hF,A,c,vs,hB,hc,hr,hp⟩:=h;intro x hx;rcases aCJ.1 hx with rfl|hx
  ·exact⟨hF,hB.lt⟩
  ·exact gV.fp l dB vs hp x hx
theorem gV.fp: ∀(l:List Tr.PT) (dB:List Nat) (vs:List Value),gV w F l dB vs->∀x∈dB,F x/\x<w.heap.size
 | [],dB,vs,h=>by obtain⟨rfl,_⟩:=h;intro x hx;simp at hx
 |p::l,dB,vs,h=>by
  obtain⟨fp,kP,v,vs',rfl,e,hp,hl⟩:=h;intro x hx;rcases aDJ.1 hx with hx|hx
  ·exact wQ.fp p fp v hp x hx
  ·exact gV.fp l kP vs' hl x hx
end
theorem wQ.form: ∀{p:Tr.PT} {fp:List Nat} {v:Value},wQ w F p fp v->∃q,v=pZZ q
 | .leaf _ _ _,_,_,h=>by obtain⟨g,e,_⟩:=h;exact⟨g,e⟩
 | .gap _ _ _,_,_,h=>by obtain⟨g,e,_⟩:=h;exact⟨g,e⟩
 | .branch _ _ _,_,_,h=>by obtain⟨g,_,e,_⟩:=h;exact⟨g,e⟩
theorem gV.app: ∀{l m:List Tr.PT} {dB fqs:List Nat} {vs us:List Value},gV w F l dB vs->gV w F m fqs us->gV w F (l++m) (dB++fqs) (vs++us)
 | [],m,dB,fqs,vs,us,h,hm=>by obtain⟨rfl,rfl⟩:=h;exact hm
 |p::l,m,dB,fqs,vs,us,h,hm=>by obtain⟨fp,kP,v,vs',rfl,rfl,hp,hl⟩:=h;exact⟨fp,kP++fqs,v,vs'++us,by rw[aCL],rfl,hp,gV.app hl hm⟩
theorem gV.one {fp:List Nat}(h:wQ w F p fp v):gV w F [p] fp [v]:=⟨fp,[],v,[],by simp,rfl,h,rfl,rfl⟩
end
structure I8(w:World)(K:Nat->Prop)(h kind:Nat)(pts:List Tr.PT)(dB:List Nat)(A:Option Addr)(c:Nat)(vs:List Value):Prop where
 nk: ¬K h
 blk:aV w h 93 (iG kind 0 [] (.slice A pts.length c))
 own:w.ownsRow 0 89 1 (.slice A pts.length c) pts.length vs
 nr: ∀q,(aBX A pts.length c).ownBlock=some q->¬K q
 parts:gV w (fun x=> ¬K x/\x≠h/\some x≠(aBX A pts.length c).ownBlock) pts dB vs
 nd:dB.Nodup
def Bn(w:World)(K:Nat->Prop)(h kind:Nat)(pts:List Tr.PT):Prop:= ∃dB A c vs,I8 w K h kind pts dB A c vs
def Rn(w:World)(F:Nat->Prop)(p:Tr.PT)(v:Value):Prop:= ∃fp,wQ w F p fp v/\fp.Nodup
theorem Rn.keep {F':Nat->Prop}(h:Rn w F p v)(hs:w.heap.size<=w'.heap.size)(hk: ∀b,F b->b<w.heap.size->w'.heap[b]? =w.heap[b]? /\F' b):Rn w' F' p v:=by
 obtain⟨fp,h,hn⟩:=h;exact⟨fp,wQ.keep hs hk _ _ _ h,hn⟩
section
variable{w w':World}{K K':Nat->Prop}{g h kind:Nat}{pts:List Tr.PT}{dB:List Nat}{A:Option Addr}{c:Nat}{vs:List Value}
theorem I8.kF (hb:I8 w K h kind pts dB A c vs): ∀q,(aBX A pts.length c).ownBlock=some q->q<w.heap.size:=fun q hq=>(hb.own.lt q hq).2
theorem I8.jP (hb:I8 w K h kind pts dB A c vs):some h≠(aBX A pts.length c).ownBlock:=own_ne hb.own hb.blk (by decide)
theorem I8.cZ (hb:I8 w K h kind pts dB A c vs)(ha:fG K' g w w')(hg:K g)(hK: ∀x,x<w.heap.size->K' x):I8 w' K h kind pts dB A c vs:=by
 have hne: ∀x,¬K x->x≠g:=fun x hx e=>hx (e▸hg)
 exact⟨hb.nk,hb.blk.cZ ha (hK _ hb.blk.lt) (hne _ hb.nk),aM hb.own fun q hq=>ha.sI q (hK _ (hb.kF q hq)) (hne _ (hb.nr q hq)),hb.nr,
  gV.keep ha.size (fun b hF hl=>⟨ha.sI b (hK b hl) (hne _ hF.1),hF⟩) _ _ _ hb.parts,hb.nd⟩
theorem Bn.cZ (hb:Bn w K h kind pts)(ha:fG (Old w) g w w')(hg:K g):Bn w' K h kind pts:=by
 obtain⟨dB,A,c,vs,hb⟩:=hb;exact⟨dB,A,c,vs,hb.cZ ha hg fun x hx=>hx⟩
theorem I8.below (hb:I8 w K h kind pts dB A c vs)(hbl:Below w.heap.size w w'):I8 w' K h kind pts dB A c vs:=
 ⟨hb.nk,hb.blk.below hbl hb.blk.lt,aM hb.own fun q hq=>hbl.block q (hb.kF q hq),hb.nr,gV.keep hbl.size (fun b hF hl=>⟨hbl.block b hl,hF⟩) _ _ _ hb.parts,hb.nd⟩
theorem Bn.below (hb:Bn w K h kind pts)(hbl:Below w.heap.size w w'):Bn w' K h kind pts:=by
 obtain⟨dB,A,c,vs,hb⟩:=hb;exact⟨dB,A,c,vs,hb.below hbl⟩
theorem Bn.nk (hb:Bn w K h kind pts): ¬K h:=by
 obtain⟨dB,A,c,vs,hb⟩:=hb;exact hb.nk
theorem Bn.part (hb:Bn w K h kind pts)(at_:Nat):Rn w (fun x=> ¬K x) (.branch kind at_ pts) (pZZ h):=by
 obtain⟨dB,A,c,vs,hb⟩:=hb;refine⟨h::dB,⟨h,dB,rfl,rfl,hb.nk,A,c,vs,hb.blk,?_,?_,?_⟩,List.nodup_cons.2 ⟨fun hx=>((gV.fp _ _ _ hb.parts _ hx).1).2.1 rfl,hb.nd⟩⟩
 ·rcases hb.own.2 with ⟨e,e2⟩|⟨q,cap,cur,e,_,_,hle,_⟩
  ·injection e;omega
  ·injection e with _ _ e3;omega
 ·intro hn;rcases hb.own.2 with ⟨e,e2⟩|⟨q,cap,cur,e,_,hq,hle,_,hz,hx⟩
  ·have:=hb.own.1;omega
  ·injection e with e1 e2 e3;subst e1;refine⟨q,0,rfl,hb.nr q rfl,qX hq,fun j u hu=> ?_⟩;rw[Nat.zero_add];have h0:=hb.own;subst e3;exact CK h0 j u hu
 ·exact gV.keep (aBT _) (fun b hF _=>⟨rfl,hF.1⟩) _ _ _ hb.parts
theorem Bn.new {K:Nat->Prop}(hK:In K w)(kind:Nat):Bn (w.alloc (.cells (iG kind 0 [] (nZZ)) 93)) K w.heap.size kind []:=
 ⟨[],none,0,[],⟨fun h=>aDR _ (hK _ h),aV.new _ _ _,aCW _ _ _ _,fun q hq=>by simp[aCZ] at hq,⟨rfl,rfl⟩,List.nodup_nil⟩⟩
theorem Bn.turned (hb:Bn w K h kind pts)(k:Nat):Bn (w.setCell ⟨h,0,none⟩ (vZZ k)) K h k pts:=by
 obtain⟨dB,A,c,vs,hb⟩:=hb;have h1:=hb.blk.bD 0 (vZZ k);have hz:w.heap.size<=(w.setCell ⟨h,0,none⟩ (vZZ k)).heap.size:=by simp[aCI]
 have hk: ∀x,x≠h->(w.setCell ⟨h,0,none⟩ (vZZ k)).heap[x]? =w.heap[x]? :=fun x hx=>aCG w ⟨h,0,none⟩ _ x hx
 exact⟨dB,A,c,vs,hb.nk,h1,aM hb.own fun q hq=>hk q fun e=>hb.jP (by rw[<-e];exact hq.symm),hb.nr,
  gV.keep hz (fun x hF _=>⟨hk x hF.2.1,hF⟩) _ _ _ hb.parts,hb.nd⟩
theorem I8.push {w5:World}(hb:I8 w K h kind pts dB A c vs)(hK:In K w){p:Tr.PT}{v:Value}{fp:List Nat}{gg cap:Nat}
  (hp:wQ w (fun x=> ¬K x/\x≠h/\some x≠(aBX A pts.length c).ownBlock) p fp v) (hn:fp.Nodup) (hd: ∀x∈fp,x∉dB)
  (hown:w5.ownsRow 0 89 1 (.slice (some ⟨gg,0,none⟩) (pts.length+1) cap) (pts.length+1) (vs++[v]))
  (hgrow:(w.alloc (.cells #[v] 89)).grownBy w5 (aBX A pts.length c).ownBlock)
  (hat:(aBX A pts.length c).ownBlock=some gg\/gg=w.heap.size+1):
  Bn (w5.setCell ⟨h,3,none⟩ (.slice (some ⟨gg,0,none⟩) (pts.length+1) cap)) K h kind (pts++[p])/\Kept K w (w5.setCell ⟨h,3,none⟩ (.slice (some ⟨gg,0,none⟩) (pts.length+1) cap)):=by
 have hz:=hgrow.size;simp at hz;have old: ∀x,x<w.heap.size->some x≠(aBX A pts.length c).ownBlock->x≠h->(w5.setCell ⟨h,3,none⟩ (.slice (some ⟨gg,0,none⟩) (pts.length+1) cap)).heap[x]? =w.heap[x]? :=fun x hx hr hh=>((aCG w5 ⟨h,3,none⟩ _ x hh).trans (hgrow.block x (by simp;omega) hr)).trans (aEQ w _ x hx)
 have hrn: ∀x,K x->some x≠(aBX A pts.length c).ownBlock:=fun x hx e=>hb.nr x e.symm hx
 have hhn: ∀x,K x->x≠h:=fun x hx e=>hb.nk (e▸hx)
 have Sw: ¬K gg:=fun hk=>by
  rcases hat with e|e
  ·exact hb.nr gg e hk
  ·have:=hK gg hk;omega
 have hgn: ∀x,x<w.heap.size->some x≠(aBX A pts.length c).ownBlock->some x≠some gg:=fun x hx hr e=>by
  rcases hat with e'|e'
  ·exact hr (e.trans e'.symm)
  ·injection e;omega
 have hhr:(h:Nat)≠gg:=fun e=>hgn h hb.blk.lt hb.jP (by rw[e])
 have hlen:(pts++[p]).length=pts.length+1:=by simp
 have rE:=((hb.blk.alloc (.cells #[v] 89)).grown hgrow hb.jP).bD 3 (.slice (some ⟨gg,0,none⟩) (pts.length+1) cap);have hsz:w5.heap.size<=(w5.setCell ⟨h,3,none⟩ (.slice (some ⟨gg,0,none⟩) (pts.length+1) cap)).heap.size:=by simp[aCI]
 refine⟨⟨dB++fp,some ⟨gg,0,none⟩,cap,vs++[v],hb.nk,?_,?_,?_,?_,?_⟩,by omega,fun x hx=>old x (hK x hx) (hrn x hx) (hhn x hx),((show Calm w (w.alloc (.cells #[v] 89))from⟨rfl,rfl,rfl⟩).trans ⟨hgrow.os,hgrow.tape,hgrow.output⟩).trans (Calm.set w5 _ _)⟩
 ·rw[hlen];exact rE
 ·rw[hlen];exact aM hown fun q hq=>aCG w5 ⟨h,3,none⟩ _ q (by simp only[aCZ,aDB.injEq] at hq;subst hq;exact Ne.symm hhr)
 ·intro q hq;simp only[aCZ,aDB.injEq] at hq;subst hq;exact Sw
 ·refine gV.app ?_ (gV.one ?_)
  ·exact gV.keep (by omega) (fun x hF hl=>⟨old x hl hF.2.2 hF.2.1,hF.1,hF.2.1,hgn x hl hF.2.2⟩) _ _ _ hb.parts
  ·exact wQ.keep (by omega) (fun x hF hl=>⟨old x hl hF.2.2 hF.2.1,hF.1,hF.2.1,hgn x hl hF.2.2⟩) _ _ _ hp
 ·exact List.nodup_append.2 ⟨hb.nd,hn,fun a ha b hb' e=>hd b hb' (e▸ha)⟩
end
structure mO(w:World)(K:Nat->Prop)(g:Nat)(s:Bs)(T:List Tk)(A:Option Addr)(c n i:Nat)(cut:Bool):Prop where
 rd:aV w g 163 #[.string ⟨s.toArray⟩,.slice A T.length c,vZZ i,vZZ n,.bool cut]
 row:fP w (fun x=>K x/\x≠g) A (fJ T)
 kg:K g
 dL:In K w
 hi:i<=T.length
section
variable{w w':World}{K K':Nat->Prop}{g:Nat}{s:Bs}{T:List Tk}{A:Option Addr}{c n i n' i':Nat}{cut cut':Bool}
theorem mO.kept (h:mO w K g s T A c n i cut)(hk:Kept K w w'):mO w' K g s T A c n i cut:=
 ⟨(hk.same g h.kg).trans h.rd,h.row.keep hk.size fun b hb _=>⟨hk.same b hb.1,hb⟩,h.kg,h.dL.after hk.size,h.hi⟩
theorem mO.below (h:mO w K g s T A c n i cut)(hb:Below w.heap.size w w'):mO w' K g s T A c n i cut:=h.kept (Kept.below hb h.dL)
theorem mO.lt (h:mO w K g s T A c n i cut):g<w.heap.size:=h.dL _ h.kg
theorem mO.old (h:mO w K g s T A c n i cut):mO w (Old w) g s T A c n i cut:=⟨h.rd,h.row.keep (aBT _) fun _ hb hl=>⟨rfl,hl,hb.2⟩,h.rd.lt,Old.WK w,h.hi⟩
theorem mO.dH (R:mO w K g s T A c n i cut)(R':mO w' K' g s T A c n' i' cut')(ha:fG K g w w'):mO w' K g s T A c n' i' cut':=
 ⟨R'.rd,R.row.keep ha.size fun b hb _=>⟨ha.sI b hb.1 hb.2,hb⟩,R.kg,R.dL.after ha.size,R'.hi⟩
theorem mO.at_ (h:mO w K g s T A c n i cut){j:Nat}(hj:j<=T.length):mO (w.setCell ⟨g,2,none⟩ (vZZ j)) K g s T A c n j cut:=by
 have h1:=h.rd.bD 2 (vZZ j);have ha:=(fG.refl K g w).set 2 (vZZ j);exact⟨h1,h.row.keep ha.size fun b hb _=>⟨ha.sI b hb.1 hb.2,hb⟩,h.kg,h.dL.after ha.size,hj⟩
theorem mO.deep (h:mO w K g s T A c n i cut)(m:Nat):mO (w.setCell ⟨g,3,none⟩ (vZZ m)) K g s T A c m i cut:=by
 have h1:=h.rd.bD 3 (vZZ m);have ha:=(fG.refl K g w).set 3 (vZZ m);exact⟨h1,h.row.keep ha.size fun b hb _=>⟨ha.sI b hb.1 hb.2,hb⟩,h.kg,h.dL.after ha.size,h.hi⟩
theorem mO.cut_ (h:mO w K g s T A c n i cut)(b:Bool):mO (w.setCell ⟨g,4,none⟩ (.bool b)) K g s T A c n i b:=by
 have h1:=h.rd.bD 4 (.bool b);have ha:=(fG.refl K g w).set 4 (.bool b);exact⟨h1,h.row.keep ha.size fun b hb _=>⟨ha.sI b hb.1 hb.2,hb⟩,h.kg,h.dL.after ha.size,h.hi⟩
theorem mO.cells (h:mO w K g s T A c n i cut):w.cell? ⟨g,0,none⟩=some (.string ⟨s.toArray⟩)/\w.cell? ⟨g,1,none⟩=some (.slice A T.length c)/\w.cell? ⟨g,2,none⟩=some (vZZ i)/\w.cell? ⟨g,3,none⟩=some (vZZ n)/\w.cell? ⟨g,4,none⟩=some (.bool cut):=by
 have c0:=h.rd.cell 0;have c1:=h.rd.cell 1;have c2:=h.rd.cell 2;have c3:=h.rd.cell 3;have c4:=h.rd.cell 4;simp at c0 c1 c2 c3 c4;exact⟨c0,c1,c2,c3,c4⟩
end
def sK(k tok:Nat)(t:Bs)(A:Option Addr)(m c:Nat)(a e f u:Int)(b:Bool):Array Value:=#[vZZ k,vZZ tok,.string ⟨t.toArray⟩,.slice A m c,kZZ a,kZZ e,kZZ f,kZZ u,.bool b]
def IV(k tok:Nat)(t:Bs)(A:Option Addr)(m c:Nat)(a:Nat)(q:Tr.Pl):Array Value:=sK k tok t A m c a q.end_ q.from_ q.oJ q.lacks
def I9(w:World)(g:Nat):Prop:= ∃k tok t A m c a e f u b,aV w g 93 (sK k tok t A m c a e f u b)
structure lF(X:List Nat)(w w':World):Prop where
 size:w'.heap.size=w.heap.size
 sI: ∀x,x∉X->w'.heap[x]? =w.heap[x]?
 nodes: ∀x∈X,I9 w x
 calm:Calm w w'
theorem I9.p_ {j:Nat}{q:Option Addr}(h:I9 w g)(hc:w.cell? ⟨g,j,none⟩=some (.pointer q)):False:=by
 obtain⟨k,tok,t,A,m,c,a,e,f,u,b,hB⟩:=h;rw[hB.cell j] at hc;unfold sK at hc;rcases j with _|_|_|_|_|_|_|_|_|j
 all_goals simp at hc
theorem fP.at_ {i:Nat}{u:Value}(h:fP w F A vs)(hu:vs[i]? =some u): ∃b o,A=some ⟨b,o,none⟩/\w.cell? ⟨b,o+i,none⟩=some u:=by
 obtain⟨b,o,e,_,_,hc⟩:=h (by have:=(aCD.1 hu).1;omega);exact⟨b,o,e,hc i u hu⟩
section
variable{w w' w1:World}{X:List Nat}{F:Nat->Prop}{A:Option Addr}
theorem lF.trans (h:lF X w w1)(h':lF X w1 w'):lF X w w':=⟨h'.size.trans h.size,fun x hx=>(h'.sI x hx).trans (h.sI x hx),h.nodes,h.calm.trans h'.calm⟩
theorem fP.turn (h:fP w F A vs)(ht:lF X w w')(hv: ∀u∈vs,∃q,u=.pointer q):fP w' F A vs:=fun hn=>by
 obtain⟨b,o,e,hF,hl,hc⟩:=h hn;have hb:b∉X:=fun hb=>by obtain⟨q,hq⟩:=hv vs[0] (List.getElem_mem hn);have h0:=hc 0 vs[0] (List.getElem?_eq_getElem hn);rw[hq] at h0;exact(ht.nodes b hb).p_ h0
 exact⟨b,o,e,hF,by rw[ht.size];exact hl,fun j u hu=>(aCM (a:=⟨b,o+j,none⟩) (ht.sI b hb)).trans (hc j u hu)⟩
theorem gV.ptrs: ∀{l:List Tr.PT} {dB:List Nat} {vs:List Value},gV w F l dB vs->∀u∈vs,∃q,u=.pointer q
 | [],_,_,h,u,hu=>by obtain⟨_,rfl⟩:=h;simp at hu
 |p::l,dB,vs,h,u,hu=>by
  obtain⟨fp,kP,v,vs',_,rfl,hp,hl⟩:=h;rcases aCJ.1 hu with rfl|hu
  ·obtain⟨q,e⟩:=hp.form;exact⟨_,e⟩
  ·exact gV.ptrs hl u hu
mutual
theorem wQ.turn (ht:lF X w w'): ∀(p:Tr.PT) (fp:List Nat) (v:Value),(∀x∈fp,x∉X)->wQ w F p fp v->wQ w' F p fp v
 | .leaf k t a,fp,v,hx,h=>by obtain⟨g,e,rfl,hF,hB⟩:=h;exact⟨g,e,rfl,hF,(ht.sI g (hx g (by simp))).trans hB⟩
 | .gap t a d,fp,v,hx,h=>by obtain⟨g,e,rfl,hF,hB⟩:=h;exact⟨g,e,rfl,hF,(ht.sI g (hx g (by simp))).trans hB⟩
 | .branch k a l,fp,v,hx,h=>by obtain⟨g,dB,e,rfl,hF,A,c,vs,hB,hc,hr,hp⟩:=h;exact⟨g,dB,e,rfl,hF,A,c,vs,(ht.sI g (hx g (by simp))).trans hB,hc,hr.turn ht hp.ptrs,gV.turn ht l dB vs (fun x hm=>hx x (aEK _ hm)) hp⟩
theorem gV.turn (ht:lF X w w'): ∀(l:List Tr.PT) (dB:List Nat) (vs:List Value),(∀x∈dB,x∉X)->gV w F l dB vs->gV w' F l dB vs
 | [],dB,vs,_,h=>h
 |p::l,dB,vs,hx,h=>by obtain⟨fp,kP,v,vs',rfl,e,hp,hl⟩:=h;exact⟨fp,kP,v,vs',rfl,e,wQ.turn ht p fp v (fun x hm=>hx x (List.mem_append_left _ hm)) hp,gV.turn ht l kP vs' (fun x hm=>hx x (List.mem_append_right _ hm)) hl⟩
end
mutual
theorem wQ.nodes: ∀(p:Tr.PT) (fp:List Nat) (v:Value),wQ w F p fp v->∀x∈fp,I9 w x
 | .leaf k t a,fp,v,h,x,hx=>by obtain⟨g,e,rfl,hF,hB⟩:=h;simp only[aCH] at hx;subst hx;exact⟨_,_,_,_,_,_,_,_,_,_,_,hB⟩
 | .gap t a d,fp,v,h,x,hx=>by obtain⟨g,e,rfl,hF,hB⟩:=h;simp only[aCH] at hx;subst hx;exact⟨_,_,_,_,_,_,_,_,_,_,_,hB⟩
 | .branch k a l,fp,v,h,x,hx=>by
  obtain⟨g,dB,e,rfl,hF,A,c,vs,hB,hc,hr,hp⟩:=h;rcases aCJ.1 hx with rfl|hx
  ·exact⟨_,_,_,_,_,_,_,_,_,_,_,hB⟩
  ·exact gV.nodes l dB vs hp x hx
theorem gV.nodes: ∀(l:List Tr.PT) (dB:List Nat) (vs:List Value),gV w F l dB vs->∀x∈dB,I9 w x
 | [],dB,vs,h,x,hx=>by obtain⟨rfl,_⟩:=h;simp at hx
 |p::l,dB,vs,h,x,hx=>by
  obtain⟨fp,kP,v,vs',rfl,e,hp,hl⟩:=h;rcases aDJ.1 hx with hx|hx
  ·exact wQ.nodes p fp v hp x hx
  ·exact gV.nodes l kP vs' hl x hx
end
end
mutual
def EE(w:World)(F:Nat->Prop):Tr.PT->Nat->List Nat->Value->Prop
 | .leaf k t x,a,fp,v=> ∃g,v=pZZ g/\fp=[g]/\F g/\aV w g 93 (IV 0 k t none 0 0 a (Tr.gF (.leaf k t x) a))
 | .gap t x d,a,fp,v=> ∃g,v=pZZ g/\fp=[g]/\F g/\aV w g 93 (IV 1 0 t none 0 0 a (Tr.gF (.gap t x d) a))
 | .branch k x l,a,fp,v=> ∃g dB,v=pZZ g/\fp=g::dB/\F g/\∃A c vs,aV w g 93 (IV k 0 [] A l.length c a (Tr.gF (.branch k x l) a))/\l.length<=c/\fP w F A vs/\jZ w F l a dB vs
def jZ(w:World)(F:Nat->Prop):List Tr.PT->Nat->List Nat->List Value->Prop
 | [],_,dB,vs=>dB=[]/\vs=[]
 |p::l,a,dB,vs=> ∃fp kP v vs',dB=fp++kP/\vs=v::vs'/\EE w F p a fp v/\jZ w F l (Tr.gF p a).end_ kP vs'
end
section
variable{w w' w1:World}{X:List Nat}{F:Nat->Prop}
theorem EE.form: ∀{p:Tr.PT} {a:Nat} {fp:List Nat} {v:Value},EE w F p a fp v->∃q,v=pZZ q
 | .leaf _ _ _,_,_,_,h=>by obtain⟨g,e,_⟩:=h;exact⟨g,e⟩
 | .gap _ _ _,_,_,_,h=>by obtain⟨g,e,_⟩:=h;exact⟨g,e⟩
 | .branch _ _ _,_,_,_,h=>by obtain⟨g,_,e,_⟩:=h;exact⟨g,e⟩
theorem jZ.ptrs: ∀{l:List Tr.PT} {a:Nat} {dB:List Nat} {vs:List Value},jZ w F l a dB vs->∀u∈vs,∃q,u=.pointer q
 | [],_,_,_,h,u,hu=>by obtain⟨_,rfl⟩:=h;simp at hu
 |p::l,_,dB,vs,h,u,hu=>by
  obtain⟨fp,kP,v,vs',_,rfl,hp,hl⟩:=h;rcases aCJ.1 hu with rfl|hu
  ·obtain⟨q,e⟩:=hp.form;exact⟨_,e⟩
  ·exact jZ.ptrs hl u hu
theorem jZ.len: ∀{l:List Tr.PT} {a:Nat} {dB:List Nat} {vs:List Value},jZ w F l a dB vs->vs.length=l.length
 | [],_,_,_,h=>by obtain⟨_,rfl⟩:=h;rfl
 |p::l,_,_,_,h=>by obtain⟨fp,kP,v,vs',_,rfl,_,hl⟩:=h;rw[aCC,aCC,jZ.len hl]
theorem jZ.snoc: ∀{l:List Tr.PT} {s:Tr.Pl} {dB fp:List Nat} {vs:List Value} {p:Tr.PT} {v:Value},jZ w F l s.end_ dB vs->EE w F p (Tr.fA l s).end_ fp v->jZ w F (l++[p]) s.end_ (dB++fp) (vs++[v])
 | [],s,dB,fp,vs,p,v,h,hp=>by obtain⟨rfl,rfl⟩:=h;exact⟨fp,[],v,[],by simp,rfl,by simpa only[Tr.fA] using hp,rfl,rfl⟩
 |q::l,s,dB,fp,vs,p,v,h,hp=>by obtain⟨fq,kP,u,Yr,rfl,rfl,hq,hl⟩:=h;refine⟨fq,kP++fp,u,Yr++[v],by rw[aCL],rfl,hq,?_⟩;have hj:(Tr.CR s (Tr.gF q s.end_)).end_=(Tr.gF q s.end_).end_:=rfl;rw[<-hj] at hl⊢;exact jZ.snoc hl (by simpa only[Tr.fA] using hp)
mutual
theorem EE.turn (ht:lF X w w'): ∀(p:Tr.PT) (a:Nat) (fp:List Nat) (v:Value),(∀x∈fp,x∉X)->EE w F p a fp v->EE w' F p a fp v
 | .leaf k t _,a,fp,v,hx,h=>by obtain⟨g,e,rfl,hF,hB⟩:=h;exact⟨g,e,rfl,hF,(ht.sI g (hx g (by simp))).trans hB⟩
 | .gap t _ d,a,fp,v,hx,h=>by obtain⟨g,e,rfl,hF,hB⟩:=h;exact⟨g,e,rfl,hF,(ht.sI g (hx g (by simp))).trans hB⟩
 | .branch k _ l,a,fp,v,hx,h=>by obtain⟨g,dB,e,rfl,hF,A,c,vs,hB,hc,hr,hp⟩:=h;exact⟨g,dB,e,rfl,hF,A,c,vs,(ht.sI g (hx g (by simp))).trans hB,hc,hr.turn ht hp.ptrs,jZ.turn ht l a dB vs (fun x hm=>hx x (aEK _ hm)) hp⟩
theorem jZ.turn (ht:lF X w w'): ∀(l:List Tr.PT) (a:Nat) (dB:List Nat) (vs:List Value),(∀x∈dB,x∉X)->jZ w F l a dB vs->jZ w' F l a dB vs
 | [],_,dB,vs,_,h=>h
 |p::l,a,dB,vs,hx,h=>by obtain⟨fp,kP,v,vs',rfl,e,hp,hl⟩:=h;exact⟨fp,kP,v,vs',rfl,e,EE.turn ht p a fp v (fun x hm=>hx x (List.mem_append_left _ hm)) hp,jZ.turn ht l _ kP vs' (fun x hm=>hx x (List.mem_append_right _ hm)) hl⟩
end
end
theorem EE.head : ∀{p:Tr.PT} {a:Nat} {fp:List Nat} {v:Value},EE w F p a fp v->∃q k tok t A m c,v=pZZ q/\q∈fp/\aV w q 93 (IV k tok t A m c a (Tr.gF p a))
 | .leaf _ _ _,_,_,_,h=>by obtain⟨g,e,rfl,_,hB⟩:=h;exact⟨g,_,_,_,_,_,_,e,by simp,hB⟩
 | .gap _ _ _,_,_,_,h=>by obtain⟨g,e,rfl,_,hB⟩:=h;exact⟨g,_,_,_,_,_,_,e,by simp,hB⟩
 | .branch _ _ _,_,_,_,h=>by obtain⟨g,_,e,rfl,_,A,c,vs,hB,_⟩:=h;exact⟨g,_,_,_,_,_,_,e,by simp,hB⟩
theorem iF{tok:Nat}{t:Bs}{m:Nat}{f:Int}{b:Bool}(h:aV w g 93 (sK k tok t A m c a e f u b)):
  (∀x:Int,aV (w.setCell ⟨g,4,none⟩ (kZZ x)) g 93 (sK k tok t A m c x e f u b))/\
  (∀x:Int,aV (w.setCell ⟨g,5,none⟩ (kZZ x)) g 93 (sK k tok t A m c a x f u b))/\
  (∀x:Int,aV (w.setCell ⟨g,6,none⟩ (kZZ x)) g 93 (sK k tok t A m c a e x u b))/\
  (∀x:Int,aV (w.setCell ⟨g,7,none⟩ (kZZ x)) g 93 (sK k tok t A m c a e f x b))/\
  (∀x:Bool,aV (w.setCell ⟨g,8,none⟩ (.bool x)) g 93 (sK k tok t A m c a e f u x)):=
 ⟨fun x=>h.bD 4 (kZZ x),fun x=>h.bD 5 (kZZ x),fun x=>h.bD 6 (kZZ x),fun x=>h.bD 7 (kZZ x),fun x=>h.bD 8 (.bool x)⟩
theorem fE{tok:Nat}{t:Bs}{m:Nat}{f:Int}{b:Bool}(h:aV w g 93 (sK k tok t A m c a e f u b))(i:Nat)(v:Value):lF [g] w (w.setCell ⟨g,i,none⟩ v):=
 ⟨by simp[aCI],fun x hx=>aCG w ⟨g,i,none⟩ v x (by simpa using hx),fun x hx=>by simp only[aCH] at hx;subst hx;exact⟨_,_,_,_,_,_,_,_,_,_,_,h⟩,Calm.set w _ v⟩
theorem qZ(a:Addr)(w:World):(aEL (.iface 171 (.pointer (some a))) 122 171 true).run aBS w=.ok (.tuple #[.pointer (some a),.bool true]) w:=by kernel_rfl
theorem IM(a:Addr)(w:World):(aEL (.iface 171 (.pointer (some a))) 122 176 true).run aBS w=.ok (.tuple #[oZZ,.bool false]) w:=by kernel_rfl
theorem rW(a:Addr)(w:World):(aEL (.iface 171 (.pointer (some a))) 122 114 true).run aBS w=.ok (.tuple #[oZZ,.bool false]) w:=by kernel_rfl
theorem xS(a:Addr)(w:World):(aEL (.iface 176 (.pointer (some a))) 122 171 true).run aBS w=.ok (.tuple #[oZZ,.bool false]) w:=by kernel_rfl
theorem NW(a:Addr)(w:World):(aEL (.iface 176 (.pointer (some a))) 122 176 true).run aBS w=.ok (.tuple #[.pointer (some a),.bool true]) w:=by kernel_rfl
theorem tX(a:Addr)(w:World):(aEL (.iface 176 (.pointer (some a))) 122 114 true).run aBS w=.ok (.tuple #[oZZ,.bool false]) w:=by kernel_rfl
theorem oH(a:Addr)(w:World):(aEL (.iface 114 (.pointer (some a))) 122 171 true).run aBS w=.ok (.tuple #[oZZ,.bool false]) w:=by kernel_rfl
theorem zR(a:Addr)(w:World):(aEL (.iface 114 (.pointer (some a))) 122 176 true).run aBS w=.ok (.tuple #[oZZ,.bool false]) w:=by kernel_rfl
theorem jW(a:Addr)(w:World):(aEL (.iface 114 (.pointer (some a))) 122 114 true).run aBS w=.ok (.tuple #[.pointer (some a),.bool true]) w:=by kernel_rfl
theorem dF{P:Program}{ops:Array Oper}{rest:List Oper}{o:Oper}{a:Act}{Q:Exit->Act->World->Prop}(w:World)(hgd:o.guard=none)(s x:Operand)(T:TypeId)
  (ho:o.op=.call {callee:=.builtin .append,args:=#[s,x],argTypes:=#[T,T]}) (B:Nat) (e:TypeId) {i:TypeInfo} {z:Value} (size bytes:Nat)
  (ht:P.underlying T=some (.slice e)) (hi:P.info? e=some i) (hz:i.zero=some z) (hsize:i.size=size) (hby:i.bytes=bytes) (hzs:z.cells.size=size) (hsz:0<size)
  {A:Option Addr} {c n:Nat} {vs:List Value} (hs:a.eval s=.slice A n c) (hown:w.ownsRow B e size (.slice A n c) n vs) (news:Array Value)
  (hx:a.eval x=.slice (some ⟨w.heap.size,0,none⟩) 1 1) (hl:news.size=size) (h1: ∀u∈news.toList,u.oneCell'=true) (hn:n<=1000000000) (hb:bytes<=1000) (hB:B<=w.heap.size)
  (h: ∀A' c' w',w'.ownsRow B e size (.slice A' (n+1) c') (n+1) (vs++news.toList)->Below B w w'->w.grownBy w' (aBX A n c).ownBlock->wpList P ops Q rest (a.put o.dst (.slice A' (n+1) c')) w'):
  wpList P ops Q (o::rest) a (w.alloc (.cells news e)):=by
 refine wpList_append_own (w.alloc (.cells news e)) hgd s x T ho B e i z size bytes ht hi hz hsize hby hzs hsz _ n vs hs (hown.alloc _) ⟨w.heap.size,0,none⟩ 1 1 news.toList hx (by rw[Array.length_toList,hl,Nat.one_mul])
  (aCK (cs:=news) (t:=e) (fr:=(0,0)) (heap_alloc_new w _)) h1 (by unfold maxLen;omega) ?_ (by simp;omega) ?_
 ·have h1:(n+1)*bytes<=1000000001*1000:=Nat.mul_le_mul (by omega) hb;omega
 ·intro v' w' hown' hgrow _;obtain⟨A',c',rfl⟩:=CJ hown';have hd:Below B w (w.alloc (.cells news e)):=(aBU _ _).alloc hB _;exact h A' c' w' hown' (hd.grown hgrow (by simp;omega) fun y hy=>(hown.lt y hy).1) ((World.grownBy_alloc w _ _).trans hgrow)
theorem lT{P:Program}{ops:Array Oper}{o:Oper}{a:Act}{K:Act->World->Prop}{Q:Exit->Act->World->Prop}{E:Prop}(w:World)(hgd:o.guard=none)(s x:Operand)(T:TypeId)
  (ho:o.op=.call {callee:=.builtin .append,args:=#[s,x],argTypes:=#[T,T]}) (B:Nat) (e:TypeId) {i:TypeInfo} {z:Value} (size bytes:Nat)
  (ht:P.underlying T=some (.slice e)) (hi:P.info? e=some i) (hz:i.zero=some z) (hsize:i.size=size) (hby:i.bytes=bytes) (hzs:z.cells.size=size) (hsz:0<size)
  {A:Option Addr} {c n:Nat} {vs:List Value} (hs:a.eval s=.slice A n c) (hown:w.ownsRow B e size (.slice A n c) n vs) (news:Array Value)
  (hx:a.eval x=.slice (some ⟨w.heap.size,0,none⟩) 1 1) (hl:news.size=size) (h1: ∀u∈news.toList,u.oneCell'=true) (hn:n<=1000000000) (hb:bytes<=1000) (hB:B<=w.heap.size)
  (h: ∀A' c' w',w'.ownsRow B e size (.slice A' (n+1) c') (n+1) (vs++news.toList)->Below B w w'->w.grownBy w' (aBX A n c).ownBlock->K (a.put o.dst (.slice A' (n+1) c')) w'):
  if aEA o (yielded ops a.tmps)=true then Oper.wp P o a (w.alloc (.cells news e)) K Q else E:=by
 have hw:aEA o (yielded ops a.tmps)=true:=by simp[aEA,hgd]
 rw[if_pos hw];refine wp_append_own (w.alloc (.cells news e)) s x T ho B e i z size bytes ht hi hz hsize hby hzs hsz _ n vs hs (hown.alloc _) ⟨w.heap.size,0,none⟩ 1 1 news.toList hx (by rw[Array.length_toList,hl,Nat.one_mul])
  (aCK (cs:=news) (t:=e) (fr:=(0,0)) (heap_alloc_new w _)) h1 (by unfold maxLen;omega) ?_ (by simp;omega) ?_
 ·have h1:(n+1)*bytes<=1000000001*1000:=Nat.mul_le_mul (by omega) hb;omega
 ·intro v' w' hown' hgrow _;obtain⟨A',c',rfl⟩:=CJ hown';have hd:Below B w (w.alloc (.cells news e)):=(aBU _ _).alloc hB _;exact h A' c' w' hown' (hd.grown hgrow (by simp;omega) fun y hy=>(hown.lt y hy).1) ((World.grownBy_alloc w _ _).trans hgrow)
theorem VS:(aBS.info? 122).map (fun i=>(i.zero,i.size,i.bytes))=some (some .nilIface,1,16):=by kernel_rfl
theorem Vi:(aBS.info? 171).map (fun i=>(i.zero,i.size,i.bytes))=some (some (oZZ),1,8):=by kernel_rfl
def Bp(l:List Tr.PT)(w:World)(F:Nat->Prop)(e:Ending)(w':World):Prop:=
 ∃A c vs,e=.returned (.slice A l.length c)/\w'.ownsRow w.heap.size 122 1 (.slice A l.length c) l.length vs/\eF w' F l vs/\Below w.heap.size w w'
theorem eF.below (h:eF w F l vs)(hd:Below w.heap.size w w'):eF w' F l vs:=eF.keep hd.size (fun b hF hl=>⟨hd.block b hl,hF⟩) _ _ h
theorem dE.below (h:dE w F p v)(hd:Below w.heap.size w w'):dE w' F p v:=dE.keep hd.size (fun b hF hl=>⟨hd.block b hl,hF⟩) _ _ h
theorem eF.snoc (h:eF w F l vs)(hp:dE w F p v):eF w F (l++[p]) (vs++[v]):=eF.app h (eF.one hp)
theorem Sc.GK (l:List Tr.PT)(i:Nat)(h:i<l.length):Sc.aI (l.take (i+1))=if Sc.gK l[i] then Sc.aI (l.take i)else Sc.aI (l.take i)++[l[i]]:=by
 rw[List.take_succ_eq_append_getElem h,Sc.uF];unfold Sc.aI;rw[List.filter_cons,List.filter_nil];cases Sc.gK l[i]<;>simp
theorem rH{q a:Nat}(hp:dE w F (.branch k a l) (.iface 114 (pZZ q)))(hl:l.length<=1000000000):
  Calls aBS 94 #[pZZ q] w (Bp (Sc.aI l) w F):=by
 obtain⟨i0,ji,iW,jz1,iV⟩:=info_parts VS;obtain⟨q',e,_,A,c,vs,hB,hc,hrow,hps⟩:=hp;injection e with _ e;injection e with e;injection e with e;injection e with e;subst e;have b1:=hB.cell 1;simp at b1;have Hl:=aB hl;clear hl hc
 go_enter func94,ntmps94
 go_wp2_with fail
 go_loopg [3,13] l.length (fun m v u wr=> ∃(i:Nat) (Ao:Option Addr) (co:Nat) (pW:List Value),v=.slice Ao (Sc.aI (l.take i)).length co/\u=vZZ i/\i<=l.length/\l.length-i<=m/\wr.ownsRow w.heap.size 122 1 (.slice Ao (Sc.aI (l.take i)).length co) (Sc.aI (l.take i)).length pW/\eF w F (Sc.aI (l.take i)) pW/\Below w.heap.size w wr)
 case atStart=>exact⟨0,none,0,[],rfl,rfl,aBZ _,aBT _,aCW _ _ _ _,rfl,aBU _ _⟩
 case round=>
  clear b1;obtain⟨i,Ao,co,pW,rfl,rfl,hi,hm,hown,hos,hd⟩:=hrel
  by_cases hlt:i<l.length
  ·have GZ:=iZ i;have EB:=jJ i l.length;obtain⟨v,hv,hpv⟩:=hps.at_ hlt;obtain⟨br,o,rfl,FP,hbl,hcc⟩:=hrow (by have:=hps.len;omega);have hcell:=hcc _ _ hv;have q0:=(hd.cell (p:=⟨br,o+i,none⟩) hbl).trans hcell;have HT:=aB (Sc.GK l i hlt);have Hn:aC ((Sc.aI (l.take i)).length<=1000000000):=(by have h1:(Sc.aI (l.take i)).length<=(l.take i).length:=List.length_filter_le _ _;rw[List.length_take] at h1;have:=Hl.o;show _<=_;omega);have c1:=uX i (by have:=Hl.o;omega);generalize l[i]=p at *;generalize hst:Sc.aI (l.take i)=st at *;have bZ:=aB hlt;have Hm:=aB hm;have hsz:=hd.size;have uT:=aB hsz;clear hst hv hcc hcell hbl hlt hm hi FP hsz;cases p with
   |leaf k t a=>
    obtain⟨g,rfl,_,hgB⟩:=hpv;have k0:=(hgB.below hd hgB.lt).cell 0;simp at k0;have has:=fun w=>qZ ⟨g,0,none⟩ w
    have hbk:=NR k wr;have vO:dE w F (.leaf k t a) (.iface 171 (pZZ g)):=⟨g,rfl,by assumption,hgB⟩;clear hgB;have HT:aC (Sc.aI (l.take (i+1))=if(k==1||k==2)then st else st++[.leaf k t a]):=HT
    by_cases hk:(k==1||k==2)=true
    ·rw[if_pos hk] at HT;go_wp2_with fail;refine hbk.mono ?_;clear hbk;rintro e w1 ⟨rfl,rfl⟩;rw[hk];go_wp2_with fail
     go_roundg (l.length-(i+1))
     case rel=>exact⟨i+1,Ao,co,pW,by rw[HT.o],by go_num,by have:=bZ.o;omega,aBT _,by rw[HT.o];exact hown,by rw[HT.o];exact hos,hd⟩
     case measure=>have:=bZ.o;have:=Hm.o;omega
    ·rw[if_neg hk] at HT;have hk:(k==1||k==2)=false:=by simpa using hk
     go_wp2_with fail;refine hbk.mono ?_;clear hbk;rintro e w1 ⟨rfl,rfl⟩;rw[hk];go_wp2_with (at_builtin;refine dF _ rfl _ _ 119 rfl w.heap.size 122 1 16 underlying119 ji iW jz1 iV rfl (by omega) rfl hown #[.iface 171 (pZZ g)] rfl rfl (by simp[aCA]) Hn.o (by omega) uT.o ?_;intro A' c' w2 hown2 hd2 _);have nX:=hos.snoc vO
     go_roundg (l.length-(i+1))
     case rel=>exact⟨i+1,A',c',_,by rw[HT.o,aBW];rfl,by go_num,by have:=bZ.o;omega,aBT _,by rw[HT.o,aBW];exact hown2,by rw[HT.o];exact nX,hd.trans hd2⟩
     case measure=>have:=bZ.o;have:=Hm.o;omega
   |gap t a d=>
    have vO:=hpv;obtain⟨g,rfl,_,hgB⟩:=hpv;have has:=fun w=>xS ⟨g,0,none⟩ w
    clear hgB;have HT:aC (Sc.aI (l.take (i+1))=st++[.gap t a d]):=HT;go_wp2_with (at_builtin;refine dF _ rfl _ _ 119 rfl w.heap.size 122 1 16 underlying119 ji iW jz1 iV rfl (by omega) rfl hown #[.iface 176 (pZZ g)] rfl rfl (by simp[aCA]) Hn.o (by omega) uT.o ?_;intro A' c' w2 hown2 hd2 _);have nX:=hos.snoc vO
    go_roundg (l.length-(i+1))
    case rel=>exact⟨i+1,A',c',_,by rw[HT.o,aBW];rfl,by go_num,by have:=bZ.o;omega,aBT _,by rw[HT.o,aBW];exact hown2,by rw[HT.o];exact nX,hd.trans hd2⟩
    case measure=>have:=bZ.o;have:=Hm.o;omega
   |branch k a m=>
    have vO:=hpv;obtain⟨g,rfl,_,hgB⟩:=hpv;have has:=fun w=>oH ⟨g,0,none⟩ w
    clear hgB;have HT:aC (Sc.aI (l.take (i+1))=st++[.branch k a m]):=HT;go_wp2_with (at_builtin;refine dF _ rfl _ _ 119 rfl w.heap.size 122 1 16 underlying119 ji iW jz1 iV rfl (by omega) rfl hown #[.iface 114 (pZZ g)] rfl rfl (by simp[aCA]) Hn.o (by omega) uT.o ?_;intro A' c' w2 hown2 hd2 _);have nX:=hos.snoc vO
    go_roundg (l.length-(i+1))
    case rel=>exact⟨i+1,A',c',_,by rw[HT.o,aBW];rfl,by go_num,by have:=bZ.o;omega,aBT _,by rw[HT.o,aBW];exact hown2,by rw[HT.o];exact nX,hd.trans hd2⟩
    case measure=>have:=bZ.o;have:=Hm.o;omega
  ·obtain rfl:i=l.length:=(by omega);have i1:=lC l.length;have i2:=kZ l.length;rw[List.take_length] at hown hos⊢;generalize hst:Sc.aI l=st at *;clear hlt hi hm;go_wp2_with fail;go_ret;exact⟨Ao,co,pW,rfl,hown,hos.below hd,hd⟩
end Go.Proofs.YtcjjfeephaddcaaGreatDoor
