import Derived.Test.YtcjjfeephaddcaaGreatDoorJah
import Derived.StillTailTactics
import Derived.Handy
set_option linter.all false
open Go.Proofs.Tryz renaming prog->aBS
open Go.RowKit.Below renaming refl->aBU,heap_setCell->aCG,heap_alloc->aEQ
open Go.Value renaming slice->aBX,ownBlock->aCZ
open Go.World renaming setCell->aCI
open Nat renaming le_refl->aBT,succ_mul->aGA
open Option renaming some->aDB
set_option maxHeartbeats 64000000
set_option maxRecDepth 100000
open Go.Proofs.Tryz
namespace Go.Proofs.YtcjjfeephaddcaaGreatDoor
open Go.RowKit
variable{w:World}{K:Nat->Prop}
def xe(w:World)(K:Nat->Prop)(g gt:Nat)(s:Bs)(T:List Tk)(b n:Nat)(r:Tr.PT×Nat)(e:Ending)(w':World):Prop:=
 ∃h,e=.returned (pZZ h)/\fG K g w w'/\jB w' K g gt s T b n r.2/\dE w' (fun x=> ¬K x) r.1 (.iface 114 (pZZ h))
theorem xe.old {w':World}{g gt:Nat}{s:Bs}{T:List Tk}{b n i:Nat}{r:Tr.PT×Nat}{e:Ending}(R:jB w K g gt s T b n i)(h:xe w (Old w) g gt s T b n r e w'):xe w K g gt s T b n r e w':=by
 obtain⟨q,h1,h2,h3,h4⟩:=h;have hA:=h2.old R.dL;exact⟨q,h1,hA,R.dH h3 hA,h4.dH R.dL⟩
section
variable{w0 w:World}{K:Nat->Prop}{g gt:Nat}{s:Bs}{T:List Tk}{b n i:Nat}{h kind at_ c:Nat}{st:Tr.St}
theorem Zz(X:iN s T)(S:qU w0 K g gt h kind at_ s T b n i c st w):Calls aBS 104 #[pZZ g] w fun e w'=>e=.returned (kZZ (Tr.aH T st.2:Int))/\w'=w:=
 pF S.R.rs S.R.hi (by have:=X.hT;omega)
theorem Jn(X:iN s T)(R:jB w K g gt s T b n i):
  Calls aBS 152 #[pZZ g] w (xe w K g gt s T b n (Tr.qQ s T b i)):=by
 refine Calls.mono ?_ fun _ _ h=>xe.old R h
 have hbr:=lX X R 5;have HJ:aC (Tr.qQ s T b i=(.branch 5 (Tr.bC s T b i) (Tr.fM s T b (T.length+1) false ([],i)).1,(Tr.fM s T b (T.length+1) false ([],i)).2)):=rfl;rw[HJ.o];clear HJ;generalize Tr.bC s T b i=pl at *;generalize hJ:Tr.fM s T b (T.length+1) false ([],i)=J;have HJ:=aB hJ;clear hJ R;obtain⟨h,hh⟩:=dC w.heap.size;rw[<-hh] at hbr;clear hh
 go_enter func152,ntmps152
 go_wp2_with fail;refine hbr.mono ?_;clear hbr;rintro e1 w1 ⟨rfl, -, -,S⟩;go_wp2_with fail
 go_loopg [4] (T.length-i) (fun q v wr=> ∃(last:Bool) (y:Tr.St),v=.bool last/\T.length-y.2<=q/\aC (Tr.fM s T b (T.length+1) last y=J)/\qU w (Old w) g gt h 5 pl s T b n i 0 y wr)
 case atStart=>exact⟨false,([],i),rfl,aBT _,HJ,S⟩
 case round=>
  clear S HJ;obtain⟨last,y,rfl,hq,HJ,S⟩:=hrel;have Ee:=S.ok.2.1;have fU:aC (¬(last=false/\Tr.aH T y.2<T.length/\Tr.fK s T y.2=false)->y=J):=fun h=>(by rw[<-Tr.LU s T b last y h];exact HJ.o);cases last with
  |true=>
   have hj:=fU.o (fun h=>by simp at h);clear fU HJ;subst hj;have hS:=fun m=>S.below (below_drewN (aBU wr.heap.size wr) m)
   clear S;go_wp2_with fail
   go_quiet (fail)
   go_wp2_with fail;go_ret;exact⟨h,rfl,(hS _).A,(hS _).R,(hS _).B.part⟩
  |false=>
  have hS:=fun m=>S.below (below_drewN (aBU wr.heap.size wr) m)
  have hnx:=fun m=>Zz X (hS m)
  have jA:aC (Tr.aH T y.2<T.length->Tr.fK s T y.2=false->Tr.fM s T b (T.length+1) (Tr.aW s T [[59]] y.2) (Tr.thn y (Tr.aK s T b))=J/\y.2<(Tr.thn y (Tr.aK s T b)).2):=fun h1 h2=>⟨by rw[<-Tr.vL s T b false y Ee ⟨rfl,h1,h2⟩];exact HJ.o,(Tr.iO s T b y Ee h1).1⟩
  clear HJ;obtain⟨g0,_,_,_⟩:=S.R.rs.cells;obtain⟨d,A,cA,t0,t1,d0,hrow⟩:=S.R.rs.tr.cells;clear hrow t0 d0
  by_cases hlt:Tr.aH T y.2<T.length
  ·have hstart:=fun m=>rT X (hS m).R [Tr.fZ,Tr.gL,Tr.iP] (by simp) 3
   have i1:((Tr.aH T y.2:Nat):Int)<(T.length:Int):=(by omega);have bZ:=aB hlt;have e3:aC (Tr.aW s T [Tr.fZ,Tr.gL,Tr.iP] y.2=Tr.fK s T y.2):=rfl;clear hlt;generalize Tr.aH T y.2=nx at *;generalize hsv:Tr.aW s T [Tr.fZ,Tr.gL,Tr.iP] y.2=sv at *;have hgl:=S.R.rs.rd.lt;have Sv:=World.block_lt_of_cell? wr ⟨gt,0+1,none⟩ t1;have hSb:=fun w' (hb:Below wr.heap.size wr w')=>S.below hb
   clear S;go_upto_region 3 with fail
   go_cut [27] (fun v wc=>v=.bool (!sv)/\qU w (Old w) g gt h 5 pl s T b n i 0 y wc)
   case first=>
    have his:Calls aBS 150 #[pZZ g,.slice (some ⟨wr.heap.size,0,none⟩) 3 3] ((wr.drew).alloc (.cells #[.string ⟨#[117,115,101]⟩,.string ⟨#[112,117,98]⟩,.string ⟨#[100,101,102]⟩] 9)) fun e w'=>e=.returned (.bool sv)/\Below wr.heap.size wr w':=(hstart 1).mono fun _ _ h=>⟨h.1,(below_drewN (aBU _ _) 1).trans (h.2.mono (aBT _))⟩
    have hnx1:=hnx 1;clear hstart jA fU hsv e3 hnx
    go_region_held3 (fun w'=>w'.cell? ⟨g,0,none⟩=some (pZZ gt)/\w'.cell? ⟨gt,1,none⟩=some (.slice A T.length cA)) (first|(go_keep;done)|exact⟨(hbw.cell (p:=⟨g,0,none⟩) hgl).trans g0,(hbw.cell (p:=⟨gt,1,none⟩) Sv).trans t1⟩) ((first|(go_at_call 104;refine(show Calls _ _ _ (World.drew wr) _ from hnx1).mono ?_;rintro e w2 ⟨rfl,rfl⟩)|(go_at_call 150;refine his.mono ?_;rintro e w2 ⟨rfl,hbw⟩)))
    all_goals (go_wp2_with fail;go_meet;exact⟨rfl,hSb _ hbw⟩)
   case rest=>
   obtain⟨rfl,S⟩:=hcut;clear hstart hnx hS hSb g0 t1 hgl Sv;cases sv with
   |true=>have hj:=fU.o (fun h=>by rw[<-e3.out] at h;simp at h);clear fU jA e3 hsv;subst hj;go_wp2_with fail;go_ret;exact⟨h,rfl,S.A,S.R,S.B.part⟩
   |false=>
    obtain⟨hst,hgt⟩:=jA.o bZ.o e3.out.symm;have kC:=aB hst;have PW:=aB hgt;clear fU jA e3 hsv hst hgt;have his:=vM X S [59];clear S;generalize Tr.aW s T [[59]] y.2=l2 at *
    go_wp2_with fail;refine his.mono ?_;clear his;rintro e1 w3 ⟨rfl,S⟩;have htk:=iO X S (by omega);clear S;go_wp2_with fail;refine htk.mono ?_;clear htk;rintro e1 w4 ⟨rfl,S⟩;go_wp2_with fail
    go_roundg (T.length-(Tr.thn y (Tr.aK s T b)).2)
    case rel=>exact⟨l2,_,rfl,aBT _,kC,S⟩
    case measure=>have:=PW.o;have:=S.ok.2.1;omega
  ·have hj:=fU.o (fun h=>hlt h.2.1);have i1: ¬((Tr.aH T y.2:Nat):Int)<(T.length:Int):=(by omega);have i2:decide (Tr.aH T y.2<T.length)=false:=(by simpa using hlt);clear fU jA S;subst hj;generalize Tr.aH T y.2=nx at *;clear hlt;go_wp2_with fail
   go_quiet ((go_at_call 104;exact Calls.quiet_of_same (hnx _)))
   go_wp2_with fail;go_ret;exact⟨h,rfl,(hS _).A,(hS _).R,(hS _).B.part⟩
theorem Jq(X:iN s T)(R:jB w K g gt s T b 0 i):
  Calls aBS 151 #[pZZ g] w (xe w K g gt s T b 0 (Tr.gT s T b i)):=by
 refine Calls.mono ?_ fun _ _ h=>xe.old R h
 have hbr:=lX X R 4;have HP:aC (Tr.gT s T b i=if Tr.aW s T [Tr.fZ] (Tr.dA s T b i).2 then Tr.nC s T b 3 i (Tr.nT s T b (Tr.dA s T b i))else Tr.nC s T b 4 i (Tr.oC s T b (Tr.dA s T b i))):=rfl;generalize Tr.gT s T b i=r at *;have hfin: ∀(w8:World) (hp0 k c:Nat) (st:Tr.St) (e':Ending),e'=.returned (pZZ hp0)->qU w (Old w) g gt hp0 k (Tr.bC s T b i) s T b 0 i c st w8->r=Tr.nC s T b k i st->xe w (Old w) g gt s T b 0 r e' w8:=fun w8 hp0 k c st e' he S hr=>by rw[hr];exact⟨hp0,he,S.A,S.R,S.B.part⟩
 generalize Tr.bC s T b i=pl at *;obtain⟨hp0,fB⟩:=dC w.heap.size;rw[<-fB] at hbr;clear fB R
 go_enter func151,ntmps151
 go_wp2_with fail;refine hbr.mono ?_;clear hbr;rintro e1 w1 ⟨rfl, -, -,S⟩;have his:=vM X S Tr.gL;clear S;have Mv:aC (Tr.aW s T [Tr.gL] i=true->Tr.thn ([],i) (Tr.aK s T b)=Tr.dA s T b i):=fun h=>by unfold Tr.dA;rw[if_pos h,sO]
 have ny:aC (Tr.aW s T [Tr.gL] i=false->([],i)=Tr.dA s T b i):=fun h=>by unfold Tr.dA;rw[if_neg (by rw[h];simp)]
 generalize Tr.dA s T b i=pb at *;dsimp only at his;generalize Tr.aW s T [Tr.gL] i=v1 at *;go_wp2_with fail;refine his.mono ?_;clear his;rintro e1 w4 ⟨rfl,S⟩;go_upto_if 8 with fail
 go_cut [8] (fun _ wc=>qU w (Old w) g gt hp0 4 pl s T b 0 i 0 pb wc)
 case first=>
  cases v1 with
  |true=>have h:=Mv.o rfl;have htk:=iO X S (by omega);rw[h] at htk;clear S Mv ny h;go_wp2_with fail;refine htk.mono ?_;clear htk;rintro e1 w5 ⟨rfl,S⟩;go_wp2_with fail;go_meet;exact S
  |false=>have h:=ny.o rfl;rw[h] at S;clear Mv ny h;go_wp2_with fail;go_meet;exact S
 case rest=>
 clear S Mv ny;have S:=hcut;clear hcut;have his:=vM X S Tr.fZ;clear S;generalize Tr.aW s T [Tr.fZ] pb.2=v2 at *;go_wp2_with fail;refine his.mono ?_;clear his;rintro e1 w5 ⟨rfl,S⟩;cases v2 with
 |true=>
  have Nh:aC (r=Tr.nC s T b 3 i (Tr.nT s T b pb)):=(by show _=_;rw[HP.o];rfl);clear HP;obtain⟨A,c,vs,hb⟩:=S.B;have z0:=hb.blk.cell 0;have zf:=hb.blk.frozen 0;simp at z0;have S:=qU.kind S 3;clear hb;go_upto_region 6 with fail;have S:qU w (Old w) g gt hp0 3 pl s T b 0 i 0 pb (w5.setCell ⟨hp0,0,none⟩ (kZZ 3)):=S;clear z0 zf;generalize w5.setCell _ _=w6 at *;have htk:=kD X S Tr.fZ (by omega);clear S;go_wp2_with fail;refine htk.mono ?_;clear htk;rintro e1 w7 ⟨rfl,S⟩;have htk:=vG X S (by omega);clear S;go_wp2_with fail;refine htk.mono ?_;clear htk;rintro e1 w8 ⟨rfl,S⟩;have htk:=kD X S [46] (by omega);clear S;go_wp2_with fail;refine htk.mono ?_;clear htk;rintro e1 w9 ⟨rfl,S⟩;have htk:=vG X S (by omega);clear S;go_wp2_with fail;refine htk.mono ?_;clear htk;rintro e1 EA ⟨rfl,S⟩;have HU:aC (Tr.nT s T b pb=Tr.thn (if Tr.aW s T [Tr.wE] (Tr.thn (Tr.thn (Tr.thn (Tr.thn pb (Tr.aN s T b Tr.fZ)) (Tr.aQ s T b)) (Tr.aN s T b [46])) (Tr.aQ s T b)).2 then Tr.thn (Tr.thn (Tr.thn (Tr.thn (Tr.thn (Tr.thn pb (Tr.aN s T b Tr.fZ)) (Tr.aQ s T b)) (Tr.aN s T b [46])) (Tr.aQ s T b)) (Tr.aK s T b)) (Tr.aQ s T b)else(Tr.thn (Tr.thn (Tr.thn (Tr.thn pb (Tr.aN s T b Tr.fZ)) (Tr.aQ s T b)) (Tr.aN s T b [46])) (Tr.aQ s T b))) (Tr.aN s T b [59])):=rfl;generalize(Tr.thn (Tr.thn (Tr.thn (Tr.thn pb (Tr.aN s T b Tr.fZ)) (Tr.aQ s T b)) (Tr.aN s T b [46])) (Tr.aQ s T b))=u at *;have WB:aC (Tr.aW s T [Tr.wE] u.2=true->Tr.thn (Tr.thn u (Tr.aK s T b)) (Tr.aQ s T b)=(if Tr.aW s T [Tr.wE] u.2 then Tr.thn (Tr.thn u (Tr.aK s T b)) (Tr.aQ s T b)else u)):=fun h=>by rw[if_pos h]
  have WC:aC (Tr.aW s T [Tr.wE] u.2=false->u=(if Tr.aW s T [Tr.wE] u.2 then Tr.thn (Tr.thn u (Tr.aK s T b)) (Tr.aQ s T b)else u)):=fun h=>(by rw[if_neg (by rw[h];simp)]);generalize(if Tr.aW s T [Tr.wE] u.2 then Tr.thn (Tr.thn u (Tr.aK s T b)) (Tr.aQ s T b)else u)=u2 at *;have his:=vM X S Tr.wE;clear S;generalize Tr.aW s T [Tr.wE] u.2=v3 at *;go_wp2_with fail;refine his.mono ?_;clear his;rintro e1 gB ⟨rfl,S⟩;go_upto_if 32 with fail
  go_cut [32] (fun _ wc=>qU w (Old w) g gt hp0 3 pl s T b 0 i 100 u2 wc)
  case first=>
   cases v3 with
   |true=>have h:=WB.o rfl;clear WB WC;have htk:=iO X S (by omega);clear S;go_wp2_with fail;refine htk.mono ?_;clear htk;rintro e1 K3 ⟨rfl,S⟩;have htk:=vG X S (by omega);rw[h] at htk;clear S h;go_wp2_with fail;refine htk.mono ?_;clear htk;rintro e1 XC ⟨rfl,S⟩;go_wp2_with fail;go_meet;exact S.mono (by omega)
   |false=>have h:=WC.o rfl;rw[h] at S;clear WB WC h;go_wp2_with fail;go_meet;exact S.mono (by omega)
  case rest=>
  clear S WB WC;have S:=hcut;clear hcut;have htk:=kD X S [59] (by omega);clear S;go_wp2_with fail;refine htk.mono ?_;clear htk;rintro e1 K3 ⟨rfl,S⟩;rw[<-HU.o] at S;go_wp2_with fail;go_ret;exact hfin _ hp0 3 _ _ _ rfl S Nh.o
 |false=>
  have Nh:aC (r=Tr.nC s T b 4 i (Tr.oC s T b pb)):=(by show _=_;rw[HP.o];rfl);clear HP;have htk:=kD X S Tr.iP (by omega);clear S;go_wp2_with fail;refine htk.mono ?_;clear htk;rintro e1 w7 ⟨rfl,S⟩;have htk:=vG X S (by omega);clear S;go_wp2_with fail;refine htk.mono ?_;clear htk;rintro e1 w8 ⟨rfl,S⟩;have HU:aC (Tr.oC s T b pb=Tr.thn (Tr.thn (Tr.thn (if Tr.aW s T [[40]] (Tr.thn (Tr.thn pb (Tr.aN s T b Tr.iP)) (Tr.aQ s T b)).2 then Tr.thn (Tr.thn (Tr.thn pb (Tr.aN s T b Tr.iP)) (Tr.aQ s T b)) (fun i=>Tr.aS (Tr.bB s T b i))else(Tr.thn (Tr.thn pb (Tr.aN s T b Tr.iP)) (Tr.aQ s T b))) (Tr.aN s T b [61])) (fun i=>Tr.aS (Tr.aU s T b 65 i))) (Tr.aN s T b [59])):=rfl
  generalize(Tr.thn (Tr.thn pb (Tr.aN s T b Tr.iP)) (Tr.aQ s T b))=u at *;have WB:aC (Tr.aW s T [[40]] u.2=true->Tr.thn u (fun i=>Tr.aS (Tr.bB s T b i))=(if Tr.aW s T [[40]] u.2 then Tr.thn u (fun i=>Tr.aS (Tr.bB s T b i))else u)):=fun h=>by rw[if_pos h]
  have WC:aC (Tr.aW s T [[40]] u.2=false->u=(if Tr.aW s T [[40]] u.2 then Tr.thn u (fun i=>Tr.aS (Tr.bB s T b i))else u)):=fun h=>by rw[if_neg (by rw[h];simp)]
  generalize(if Tr.aW s T [[40]] u.2 then Tr.thn u (fun i=>Tr.aS (Tr.bB s T b i))else u)=u2 at *
  have his:=vM X S [40];clear S;generalize Tr.aW s T [[40]] u.2=v3 at *
  go_wp2_with fail;refine his.mono ?_;clear his;rintro e1 gB ⟨rfl,S⟩;go_upto_if 51 with fail
  go_cut [51] (fun _ wc=>qU w (Old w) g gt hp0 4 pl s T b 0 i 100 u2 wc)
  case first=>
   cases v3 with
   |true=>have h:=WB.o rfl;clear WB WC;have htk:=QS X S (by omega);rw[h] at htk;clear S h;go_wp2_with fail;refine htk.mono ?_;clear htk;rintro e1 XC ⟨rfl,S⟩;go_wp2_with fail;go_meet;exact S.mono (by omega)
   |false=>have h:=WC.o rfl;rw[h] at S;clear WB WC h;go_wp2_with fail;go_meet;exact S.mono (by omega)
  case rest=>
  clear S WB WC;have S:=hcut;clear hcut;have htk:=kD X S [61] (by omega);clear S;go_wp2_with fail;refine htk.mono ?_;clear htk;rintro e1 K3 ⟨rfl,S⟩;have htk:=pX X (D9 X 65 0 (by omega)) S (by omega);clear S;go_wp2_with fail;refine htk.mono ?_;clear htk;rintro e1 XC ⟨rfl,S⟩;have htk:=kD X S [59] (by omega);clear S;go_wp2_with fail;refine htk.mono ?_;clear htk;rintro e1 Xq ⟨rfl,S⟩;rw[<-HU.o] at S;go_wp2_with fail;go_ret;exact hfin _ hp0 4 _ _ _ rfl S Nh.o
end
section
variable{w0 w:World}{K:Nat->Prop}{g gt:Nat}{s:Bs}{T:List Tk}{b n i:Nat}
theorem jB.base (h:jB w K g gt s T b n i){b':Nat}(hb:b'<=Tr.dD s T i):jB (w.setCell ⟨g,2,none⟩ (vZZ b')) K g gt s T b' n i:=by
 have h1:=(h.rs.rd.bD 2 (vZZ b'));simp at h1;have ha:fG K g w (w.setCell ⟨g,2,none⟩ (vZZ b')):=(fG.refl K g w).set 2 _;exact⟨⟨h1,h.rs.tr.cZ ha⟩,h.dL.after ha.size,h.hi,hb⟩
theorem SA{kb:Nat}(hK: ∀x,K x->x≠kb)(a b c d:Value):Kept K w ((((w.setCell ⟨kb,0,none⟩ a).setCell ⟨kb,1,none⟩ b).setCell ⟨kb,2,none⟩ c).setCell ⟨kb,3,none⟩ d):=by
 refine⟨by simp[aCI],fun x hx=> ?_,(((Calm.set w ⟨kb,0,none⟩ a).trans (Calm.set _ ⟨kb,1,none⟩ b)).trans (Calm.set _ ⟨kb,2,none⟩ c)).trans (Calm.set _ ⟨kb,3,none⟩ d)⟩;have hx:=hK x hx;exact(((aCG _ ⟨kb,3,none⟩ d x hx).trans (aCG _ ⟨kb,2,none⟩ c x hx)).trans (aCG _ ⟨kb,1,none⟩ b x hx)).trans (aCG _ ⟨kb,0,none⟩ a x hx)
theorem jB.p9 {w':World}{K':Nat->Prop}{b' i' n':Nat}(R:jB w K g gt s T b n i)(R':jB w' K' g gt s T b' n' i')(ha:fG K g w w'):jB w' K g gt s T b' n' i':=
 ⟨⟨R'.rs.rd,R.rs.tr.cZ ha⟩,R.dL.after ha.size,R'.hi,R'.hb⟩
def KdE(w:World)(K:Nat->Prop)(g gt:Nat)(s:Bs)(T:List Tk)(i:Nat)(e:Ending)(w':World):Prop:=
 ∃h,e=.returned (.agg #[pZZ h,kZZ (Tr.dD s T i:Int),vZZ i,kZZ ((Tr.dU s T i).2:Int)])/\fG K g w w'/\jB w' K g gt s T (Tr.dD s T i) 0 (Tr.dU s T i).2/\dE w' (fun x=> ¬K x) (Tr.dU s T i).1 (.iface 114 (pZZ h))
theorem Rk(X:iN s T)(R:jB w K g gt s T b n i):
  Calls aBS 105 #[pZZ g] w (KdE w K g gt s T i):=by
 have hd0:=nR w (.cells #[oZZ,kZZ 0,kZZ 0,kZZ 0] 116);have vQ:=R.dL;have hR0:=R;have hkb:aV (w.alloc (.cells #[oZZ,kZZ 0,kZZ 0,kZZ 0] 116)) w.heap.size 116 #[oZZ,kZZ 0,kZZ 0,kZZ 0]:=aV.new _ _ _;have R:=(R.below hd0).old;have hA:=Kept.cZ (Kept.below hd0 vQ) g;obtain⟨kb,Q_⟩:=dC w.heap.size;rw[<-Q_] at hkb;have hkg:kb≠g:=by have:=hR0.rs.rd.lt;omega
 have HKb:aC (∀x,K x->x≠kb):=fun x hx e=>by have:=vQ x hx;omega
 go_enter func105,ntmps105
 go_upto_region 1 with fail;rw[<-Q_];clear Q_ hd0;generalize w.alloc _=w1 at *;obtain⟨g0,g1,g2,g3⟩:=R.rs.cells;have f2:=R.rs.rd.frozen 2;have f3:=R.rs.rd.frozen 3;have hA2:=((fG.refl (Old w1) g w1).set 2 (kZZ (0:Int))).set 3 (kZZ (0:Int));have R2:=(R.base (Nat.zero_le _)).nest 0;go_upto_region 3 with fail;have R2:jB ((w1.setCell ⟨g,2,none⟩ (kZZ (0:Int))).setCell ⟨g,3,none⟩ (kZZ (0:Int))) (Old w1) g gt s T 0 0 i:=R2;clear g0 g1 g2 g3 f2 f3;generalize(w1.setCell _ _).setCell _ _=w2 at *;have hpl:=vF R2.rs X.good R2.hb (by have:=X.hs;omega);have hp0:Tr.bC s T 0 i=Tr.dD s T i:=by unfold Tr.bC;omega
 rw[hp0] at hpl;clear hp0;have f2:=R2.rs.rd.frozen 2;obtain⟨_,_,g2,_⟩:=R2.rs.cells;have HB:aC (∀m,jB ((w2.drewN m).setCell ⟨g,2,none⟩ (kZZ (Tr.dD s T i:Int))) (Old w1) g gt s T (Tr.dD s T i) 0 i):=fun m=>(R2.drewN m).base (aBT _)
 obtain⟨b1,hb1⟩:=dC (Tr.dD s T i);rw[<-hb1] at hpl HB;have za:aC (Tr.fK s T i=true->Tr.dU s T i=Tr.gT s T b1 i):=fun h=>by unfold Tr.dU;rw[if_pos h,hb1]
 have zb:aC (Tr.fK s T i=false->Tr.dU s T i=Tr.qQ s T b1 i):=fun h=>by unfold Tr.dU;rw[if_neg (by rw[h];simp),hb1]
 have HE:aC (∀e w',(∃h,e=.returned (.agg #[pZZ h,vZZ b1,vZZ i,kZZ ((Tr.dU s T i).2:Int)])/\fG K g w w'/\jB w' K g gt s T b1 0 (Tr.dU s T i).2/\dE w' (fun x=> ¬K x) (Tr.dU s T i).1 (.iface 114 (pZZ h)))->KdE w K g gt s T i e w'):=fun e w' h=>by rw[hb1] at h;exact h
 clear hb1;generalize hr:Tr.dU s T i=r at *;go_wp2_with fail;refine hpl.mono ?_;clear hpl;rintro e w3 ⟨rfl,m,rfl⟩;have hA3:=(hA2.drewN m).set 2 (vZZ b1);have R3:=HB.o m;go_upto_region 5 with fail;clear g2 f2 hA2 R2 HB R;generalize(w2.drewN m).setCell _ _=w4 at *;have his:Calls aBS 150 #[pZZ g,.slice (some ⟨w4.heap.size,0,none⟩) 3 3] (w4.alloc (.cells #[.string ⟨#[117,115,101]⟩,.string ⟨#[112,117,98]⟩,.string ⟨#[100,101,102]⟩] 9)) fun e w'=>e=.returned (.bool (Tr.fK s T i))/\Below w4.heap.size w4 w':=rT X R3 [Tr.fZ,Tr.gL,Tr.iP] (by simp) 3
 generalize Tr.fK s T i=v at *;go_wp2_with fail;refine his.mono ?_;clear his;rintro e w5 ⟨rfl,hd5⟩;have Z6:=hA3.trans (Kept.cZ (Kept.below hd5 R3.dL) g);have R5:=R3.below hd5;clear hA3 R3 hd5;have hend: ∀(w6:World) (h:Nat),fG (Old w1) g w5 w6->jB w6 (Old w1) g gt s T b1 0 r.2->dE w6 (fun x=> ¬Old w1 x) r.1 (.iface 114 (pZZ h))->aV w6 kb 116 #[oZZ,kZZ 0,kZZ 0,kZZ 0]:=fun w6 h h1 h2 h3=>hkb.cZ (Z6.trans h1) hkb.lt hkg
 go_upto_if 22 with fail
 go_cut [4] (fun z wc=> ∃h,z=pZZ h/\fG (Old w1) g w5 wc/\jB wc (Old w1) g gt s T b1 0 r.2/\dE wc (fun x=> ¬Old w1 x) r.1 (.iface 114 (pZZ h)))
 case first=>
  cases v with
  |true=>have hV:=za.o rfl;have hit:=Jq X R5;rw[<-hV] at hit;clear za zb hV;go_wp2_with fail;refine hit.mono ?_;clear hit;intro e w6 h6;obtain⟨h,rfl,h1,h2,h3⟩:=h6;go_wp2_with fail;go_meet;exact⟨h,rfl,h1,h2,h3⟩
  |false=>have hV:=zb.o rfl;have hit:=Jn X R5;rw[<-hV] at hit;clear za zb hV;go_wp2_with fail;refine hit.mono ?_;clear hit;intro e w6 h6;obtain⟨h,rfl,h1,h2,h3⟩:=h6;go_wp2_with fail;go_meet;exact⟨h,rfl,h1,h2,h3⟩
 case rest=>
 clear za zb;obtain⟨h,rfl,h1,h2,h3⟩:=hcut;have hk:=hend _ h h1 h2 h3;obtain⟨g0,g1,g2,g3⟩:=h2.rs.cells;have zD:=Z6.trans h1;clear hend R5 Z6 h1;go_wp2_with fail
 go_still_tail 11,(by kernel_rfl)
 change wpList _ _ _ _ _ wc.drew;have hk:=hk.drew;have h2:=h2.drewN 1;have zD:=zD.drew;have h3:dE wc.drew (fun x=> ¬Old w1 x) r.1 (.iface 114 (pZZ h)):=dE.keep (w:=wc) (w':=wc.drew) (show wc.heap.size<=wc.drew.heap.size from aBT _) (fun _ hF _=>⟨rfl,hF⟩) _ _ h3;have h2:jB wc.drew (Old w1) g gt s T b1 0 r.2:=h2;clear g0 g1 g2 g3;generalize wc.drew=w7 at *;have k0:=hk.cell 0;have k1:=hk.cell 1;have k2:=hk.cell 2;have k3:=hk.cell 3;simp at k0 k1 k2 k3;have y0:=hk.frozen 0;have y1:=hk.frozen 1;have y2:=hk.frozen 2;have y3:=hk.frozen 3;go_wp2_with fail;have OM:=(((hk.bD 0 (pZZ h)).bD 1 (vZZ b1)).bD 2 (vZZ i)).bD 3 (kZZ (r.2:Int));simp at OM;have hAK:=hA.trans (zD.old (vQ.after hA.size));have hKe:Kept K w7 ((((w7.setCell ⟨kb,0,none⟩ (pZZ h)).setCell ⟨kb,1,none⟩ (vZZ b1)).setCell ⟨kb,2,none⟩ (vZZ i)).setCell ⟨kb,3,none⟩ (kZZ (r.2:Int))):=SA HKb.o _ _ _ _;have hol: ∀x,x≠kb->((((w7.setCell ⟨kb,0,none⟩ (pZZ h)).setCell ⟨kb,1,none⟩ (vZZ b1)).setCell ⟨kb,2,none⟩ (vZZ i)).setCell ⟨kb,3,none⟩ (kZZ (r.2:Int))).heap[x]? =w7.heap[x]? :=fun x hx=>(SA (K:=fun y=>y≠kb) (fun _ h=>h) _ _ _ _).same x hx
 have hR8:=(hR0.p9 h2 hAK).kept hKe;have hkl:=hkb.lt;have hp8:=dE.keep (F':=fun x=> ¬K x) hKe.size (fun x hF _=>⟨hol x (fun e=>hF (by rw[e];exact hkl)),fun hx=>hF (Nat.lt_of_lt_of_le (vQ x hx) hA.size)⟩) _ _ h3;clear h2 h3 zD k0 k1 k2 k3 y0 y1 y2 y3 hk hol;generalize((((w7.setCell _ _).setCell _ _).setCell _ _).setCell _ _)=w8 at *;have k0:=OM.cell 0;have k1:=OM.cell 1;have k2:=OM.cell 2;have k3:=OM.cell 3;simp at k0 k1 k2 k3
 (try simp only[Exit.inBlock,Exit.then])
 refine bodyPost_ret (v:=.agg #[pZZ h,vZZ b1,vZZ i,kZZ (r.2:Int)]) (by simp[results,results105,go_sem,k0,k1,k2,k3];try rfl) rfl ?_;exact HE.o _ _ ⟨h,rfl,hAK.trans (hKe.cZ g),hR8,hp8⟩
end
def nE(w:World)(F:Nat->Prop):List Tr.Kd->List Value->Prop
 | [],vs=>vs=[]
 |k::l,vs=> ∃h vs',vs=pZZ h::kZZ (k.base:Int)::kZZ (k.first:Int)::kZZ (k.last:Int)::vs'/\dE w F k.part (.iface 114 (pZZ h))/\nE w F l vs'
section
variable{w w':World}{F F':Nat->Prop}
theorem nE.keep (hs:w.heap.size<=w'.heap.size)(hk: ∀b,F b->b<w.heap.size->w'.heap[b]? =w.heap[b]? /\F' b): ∀(l:List Tr.Kd) (vs:List Value),nE w F l vs->nE w' F' l vs
 | [],vs,h=>h
 |k::l,vs,h=>by obtain⟨q,vs',e,hp,hl⟩:=h;exact⟨q,vs',e,dE.keep hs hk _ _ hp,nE.keep hs hk l vs' hl⟩
theorem nE.len: ∀{l:List Tr.Kd} {vs:List Value},nE w F l vs->vs.length=l.length*4
 | [],vs,h=>by have:vs=[]:=h;subst this;rfl
 |k::l,vs,h=>by obtain⟨q,vs',rfl,hp,hl⟩:=h;have:=nE.len hl;simp only[List.length_cons];omega
theorem nE.snoc: ∀{l:List Tr.Kd} {vs:List Value} {k:Tr.Kd} {h:Nat},nE w F l vs->dE w F k.part (.iface 114 (pZZ h))->nE w F (l++[k]) (vs++[pZZ h,kZZ (k.base:Int),kZZ (k.first:Int),kZZ (k.last:Int)])
 | [],vs,k,h,hl,hp=>by have:vs=[]:=hl;subst this;exact⟨h,[],rfl,hp,rfl⟩
 |k'::l,vs,k,h,hl,hp=>by obtain⟨q,vs',rfl,hp',hl'⟩:=hl;exact⟨q,_,rfl,hp',nE.snoc hl' hp⟩
theorem nE.at_: ∀{l:List Tr.Kd} {vs:List Value} {i:Nat},nE w F l vs->∀(h:i<l.length),∃q,vs[i*4]? =some (pZZ q)/\vs[i*4+1]? =some (kZZ (l[i].base:Int))/\vs[i*4+2]? =some (kZZ (l[i].first:Int))/\vs[i*4+3]? =some (kZZ (l[i].last:Int))/\dE w F l[i].part (.iface 114 (pZZ q))
 | [],_,_,_,h=>absurd h (by simp)
 |k::l,vs,0,hp,_=>by obtain⟨q,vs',rfl,h,_⟩:=hp;exact⟨q,rfl,rfl,rfl,rfl,h⟩
 |k::l,vs,i+1,hp,h=>by obtain⟨q,vs',rfl,_,hl⟩:=hp;obtain⟨q',h0,h1,h2,h3,h4⟩:=nE.at_ (i:=i) hl (by simpa using h);exact⟨q',by rw[aGA];exact h0,by rw[aGA];exact h1,by rw[aGA];exact h2,by rw[aGA];exact h3,h4⟩
end
structure PR(w:World)(K:Nat->Prop)(gt d:Nat)(A:Option Addr)(n c:Nat)(ks:List Tr.Kd)(Av:Option Addr)(cv:Nat)(vs:List Value)(ts:List Tr.PT)(At:Option Addr)(ct:Nat)(us:List Value):Prop where
 blk:aV w gt 131 #[pZZ d,.slice A n c,.slice Av ks.length cv,.slice At ts.length ct]
 IW:w.ownsRow 0 116 4 (.slice Av ks.length cv) ks.length vs
 FD:w.ownsRow 0 122 1 (.slice At ts.length ct) ts.length us
 ru: ∀q,(aBX Av ks.length cv).ownBlock=some q->¬K q
 rq: ∀q,(aBX At ts.length ct).ownBlock=some q->¬K q
 kids:nE w (fun x=> ¬K x/\some x≠(aBX Av ks.length cv).ownBlock/\some x≠(aBX At ts.length ct).ownBlock) ks vs
 tail:eF w (fun x=> ¬K x/\some x≠(aBX Av ks.length cv).ownBlock/\some x≠(aBX At ts.length ct).ownBlock) ts us
section
variable{w w' w5:World}{K K':Nat->Prop}{g gt d:Nat}{A:Option Addr}{n c:Nat}{ks:List Tr.Kd}{Av:Option Addr}{cv:Nat}{vs:List Value}{ts:List Tr.PT}{At:Option Addr}{ct:Nat}{us:List Value}
theorem PR.cZ (h:PR w K gt d A n c ks Av cv vs ts At ct us)(ha:fG (Old w) g w w')(hg:K g)(hgt:gt≠g):PR w' K gt d A n c ks Av cv vs ts At ct us:=by
 have hne: ∀x,¬K x->x≠g:=fun x hx e=>hx (e▸hg)
 exact⟨h.blk.cZ ha h.blk.lt hgt,aM h.IW fun q hq=>ha.sI q (h.IW.lt q hq).2 (hne _ (h.ru q hq)),aM h.FD fun q hq=>ha.sI q (h.FD.lt q hq).2 (hne _ (h.rq q hq)),h.ru,h.rq,
  nE.keep ha.size (fun b hF hl=>⟨ha.sI b hl (hne _ hF.1),hF⟩) _ _ h.kids,eF.keep ha.size (fun b hF hl=>⟨ha.sI b hl (hne _ hF.1),hF⟩) _ _ h.tail⟩
theorem PR.below (h:PR w K gt d A n c ks Av cv vs ts At ct us)(hd:Below w.heap.size w w'):PR w' K gt d A n c ks Av cv vs ts At ct us:=
 ⟨h.blk.below hd h.blk.lt,aM h.IW fun q hq=>hd.block q (h.IW.lt q hq).2,aM h.FD fun q hq=>hd.block q (h.FD.lt q hq).2,h.ru,h.rq,
  nE.keep hd.size (fun b hF hl=>⟨hd.block b hl,hF⟩) _ _ h.kids,eF.keep hd.size (fun b hF hl=>⟨hd.block b hl,hF⟩) _ _ h.tail⟩
theorem PR.ne (h:PR w K gt d A n c ks Av cv vs ts At ct us){q:Nat}(hk:(aBX Av ks.length cv).ownBlock=some q):(aBX At ts.length ct).ownBlock≠some q:=fun ht=>by
 obtain⟨cs,fr,h1⟩:=eU h.IW q hk;obtain⟨cs2,fr2,h2⟩:=eU h.FD q ht;rw[h1] at h2;injection h2 with h2;injection h2 with _ h2 _;exact absurd h2 (by decide)
theorem PR.kne (h:PR w K gt d A n c ks Av cv vs ts At ct us):some gt≠(aBX Av ks.length cv).ownBlock:=own_ne h.IW h.blk (by decide)
theorem PR.tne (h:PR w K gt d A n c ks Av cv vs ts At ct us):some gt≠(aBX At ts.length ct).ownBlock:=own_ne h.FD h.blk (by decide)
theorem PR.aBp (h:PR w K gt d A n c ks Av cv vs ts At ct us)(hK:In K w)(hgt:K gt){k:Tr.Kd}{q gg cap:Nat}
  (hp:dE w (fun x=> ¬K x/\some x≠(aBX Av ks.length cv).ownBlock/\some x≠(aBX At ts.length ct).ownBlock) k.part (.iface 114 (pZZ q)))
  (hown:w5.ownsRow 0 116 4 (.slice (some ⟨gg,0,none⟩) (ks.length+1) cap) (ks.length+1) (vs++[pZZ q,kZZ (k.base:Int),kZZ (k.first:Int),kZZ (k.last:Int)]))
  (hgrow:(w.alloc (.cells #[pZZ q,kZZ (k.base:Int),kZZ (k.first:Int),kZZ (k.last:Int)] 116)).grownBy w5 (aBX Av ks.length cv).ownBlock)
  (hat:(aBX Av ks.length cv).ownBlock=some gg\/gg=w.heap.size+1):
  PR (w5.setCell ⟨gt,2,none⟩ (.slice (some ⟨gg,0,none⟩) (ks.length+1) cap)) K gt d A n c (ks++[k]) (some ⟨gg,0,none⟩) cap (vs++[pZZ q,kZZ (k.base:Int),kZZ (k.first:Int),kZZ (k.last:Int)]) ts At ct us/\
  (∀x,x<w.heap.size->x≠gt->some x≠(aBX Av ks.length cv).ownBlock->(w5.setCell ⟨gt,2,none⟩ (.slice (some ⟨gg,0,none⟩) (ks.length+1) cap)).heap[x]? =w.heap[x]?)/\w.heap.size<=w5.heap.size/\Calm w (w5.setCell ⟨gt,2,none⟩ (.slice (some ⟨gg,0,none⟩) (ks.length+1) cap)):=by
 have hz:=hgrow.size;simp at hz;have old: ∀x,x<w.heap.size->x≠gt->some x≠(aBX Av ks.length cv).ownBlock->(w5.setCell ⟨gt,2,none⟩ (.slice (some ⟨gg,0,none⟩) (ks.length+1) cap)).heap[x]? =w.heap[x]? :=fun x hx hh hr=>((aCG w5 ⟨gt,2,none⟩ _ x hh).trans (hgrow.block x (by simp;omega) hr)).trans (aEQ w _ x hx)
 have Sw: ¬K gg:=fun hk=>by
  rcases hat with e|e
  ·exact h.ru gg e hk
  ·have:=hK gg hk;omega
 have hgn: ∀x,x<w.heap.size->some x≠(aBX Av ks.length cv).ownBlock->some x≠some gg:=fun x hx hr e=>by
  rcases hat with e'|e'
  ·exact hr (e.trans e'.symm)
  ·injection e;omega
 have hgg:gt≠gg:=fun e=>hgn gt h.blk.lt h.kne (by rw[e])
 have hlen:(ks++[k]).length=ks.length+1:=by simp
 have rE:=((h.blk.alloc (.cells #[pZZ q,kZZ (k.base:Int),kZZ (k.first:Int),kZZ (k.last:Int)] 116)).grown hgrow h.kne).bD 2 (.slice (some ⟨gg,0,none⟩) (ks.length+1) cap);have hsz:w5.heap.size<=(w5.setCell ⟨gt,2,none⟩ (.slice (some ⟨gg,0,none⟩) (ks.length+1) cap)).heap.size:=by simp[aCI]
 have hFk: ∀x,¬K x/\some x≠(aBX Av ks.length cv).ownBlock/\some x≠(aBX At ts.length ct).ownBlock->x<w.heap.size->(w5.setCell ⟨gt,2,none⟩ (.slice (some ⟨gg,0,none⟩) (ks.length+1) cap)).heap[x]? =w.heap[x]? /\¬K x/\some x≠some gg/\some x≠(aBX At ts.length ct).ownBlock:=
  fun x hF hl=>⟨old x hl (fun e=>hF.1 (e▸hgt)) hF.2.1,hF.1,hgn x hl hF.2.1,hF.2.2⟩
 refine⟨⟨?_,?_,?_,?_,h.rq,?_,?_⟩,old,by omega,((show Calm w (w.alloc (.cells #[pZZ q,kZZ (k.base:Int),kZZ (k.first:Int),kZZ (k.last:Int)] 116))from⟨rfl,rfl,rfl⟩).trans ⟨hgrow.os,hgrow.tape,hgrow.output⟩).trans (Calm.set w5 _ _)⟩
 ·rw[hlen];exact rE
 ·rw[hlen];exact aM hown fun y hy=>aCG w5 ⟨gt,2,none⟩ _ y (by simp only[aCZ,aDB.injEq] at hy;subst hy;exact Ne.symm hgg)
 ·exact aM h.FD fun y hy=>old y (h.FD.lt y hy).2 (fun e=>h.rq y hy (e▸hgt)) (fun e=>h.ne e.symm hy)
 ·intro y hy;simp only[aCZ,aDB.injEq] at hy;subst hy;exact Sw
 ·rw[hlen];exact nE.snoc (nE.keep (by omega) hFk _ _ h.kids) (dE.keep (by omega) hFk _ _ hp)
 ·rw[hlen];exact eF.keep (by omega) hFk _ _ h.tail
theorem PR.aBn (h:PR w K gt d A n c ks Av cv vs ts At ct us)(hK:In K w)(hgt:K gt){p:Tr.PT}{v:Value}{gg cap:Nat}
  (hp:dE w (fun x=> ¬K x/\some x≠(aBX Av ks.length cv).ownBlock/\some x≠(aBX At ts.length ct).ownBlock) p v)
  (hown:w5.ownsRow 0 122 1 (.slice (some ⟨gg,0,none⟩) (ts.length+1) cap) (ts.length+1) (us++[v]))
  (hgrow:(w.alloc (.cells #[v] 122)).grownBy w5 (aBX At ts.length ct).ownBlock)
  (hat:(aBX At ts.length ct).ownBlock=some gg\/gg=w.heap.size+1):
  PR (w5.setCell ⟨gt,3,none⟩ (.slice (some ⟨gg,0,none⟩) (ts.length+1) cap)) K gt d A n c ks Av cv vs (ts++[p]) (some ⟨gg,0,none⟩) cap (us++[v])/\
  (∀x,x<w.heap.size->x≠gt->some x≠(aBX At ts.length ct).ownBlock->(w5.setCell ⟨gt,3,none⟩ (.slice (some ⟨gg,0,none⟩) (ts.length+1) cap)).heap[x]? =w.heap[x]?)/\w.heap.size<=w5.heap.size/\Calm w (w5.setCell ⟨gt,3,none⟩ (.slice (some ⟨gg,0,none⟩) (ts.length+1) cap)):=by
 have hz:=hgrow.size;simp at hz;have old: ∀x,x<w.heap.size->x≠gt->some x≠(aBX At ts.length ct).ownBlock->(w5.setCell ⟨gt,3,none⟩ (.slice (some ⟨gg,0,none⟩) (ts.length+1) cap)).heap[x]? =w.heap[x]? :=fun x hx hh hr=>((aCG w5 ⟨gt,3,none⟩ _ x hh).trans (hgrow.block x (by simp;omega) hr)).trans (aEQ w _ x hx)
 have Sw: ¬K gg:=fun hk=>by
  rcases hat with e|e
  ·exact h.rq gg e hk
  ·have:=hK gg hk;omega
 have hgn: ∀x,x<w.heap.size->some x≠(aBX At ts.length ct).ownBlock->some x≠some gg:=fun x hx hr e=>by
  rcases hat with e'|e'
  ·exact hr (e.trans e'.symm)
  ·injection e;omega
 have hgg:gt≠gg:=fun e=>hgn gt h.blk.lt h.tne (by rw[e])
 have hlen:(ts++[p]).length=ts.length+1:=by simp
 have rE:=((h.blk.alloc (.cells #[v] 122)).grown hgrow h.tne).bD 3 (.slice (some ⟨gg,0,none⟩) (ts.length+1) cap);have hsz:w5.heap.size<=(w5.setCell ⟨gt,3,none⟩ (.slice (some ⟨gg,0,none⟩) (ts.length+1) cap)).heap.size:=by simp[aCI]
 have hFk: ∀x,¬K x/\some x≠(aBX Av ks.length cv).ownBlock/\some x≠(aBX At ts.length ct).ownBlock->x<w.heap.size->(w5.setCell ⟨gt,3,none⟩ (.slice (some ⟨gg,0,none⟩) (ts.length+1) cap)).heap[x]? =w.heap[x]? /\¬K x/\some x≠(aBX Av ks.length cv).ownBlock/\some x≠some gg:=
  fun x hF hl=>⟨old x hl (fun e=>hF.1 (e▸hgt)) hF.2.2,hF.1,hF.2.1,hgn x hl hF.2.2⟩
 refine⟨⟨?_,?_,?_,h.ru,?_,?_,?_⟩,old,by omega,((show Calm w (w.alloc (.cells #[v] 122))from⟨rfl,rfl,rfl⟩).trans ⟨hgrow.os,hgrow.tape,hgrow.output⟩).trans (Calm.set w5 _ _)⟩
 ·rw[hlen];exact rE
 ·exact aM h.IW fun y hy=>old y (h.IW.lt y hy).2 (fun e=>h.ru y hy (e▸hgt)) (fun e=>h.ne hy e.symm)
 ·rw[hlen];exact aM hown fun y hy=>aCG w5 ⟨gt,3,none⟩ _ y (by simp only[aCZ,aDB.injEq] at hy;subst hy;exact Ne.symm hgg)
 ·intro y hy;simp only[aCZ,aDB.injEq] at hy;subst hy;exact Sw
 ·rw[hlen];exact nE.keep (by omega) hFk _ _ h.kids
 ·rw[hlen];exact eF.app (eF.keep (by omega) hFk _ _ h.tail) (eF.one (dE.keep (by omega) hFk _ _ hp))
theorem jB.tree {s:Bs}{T:List Tk}{b m i:Nat}(R:jB w K g gt s T b m i){v1 v2:Value}(hs:w.heap.size<=w'.heap.size)(ho: ∀x,K x->x≠gt->w'.heap[x]? =w.heap[x]?)
  (hB0:aV w gt 131 #[pZZ d,.slice A T.length c,v1,v2]) {v1' v2':Value} (hB:aV w' gt 131 #[pZZ d,.slice A T.length c,v1',v2'])
  (hrow:fP w (fun x=>K x/\x≠g/\x≠gt) A (fJ T)) (hdn:d≠gt):jB w' K g gt s T b m i:=by
 obtain⟨d1,A1,c1,D,E,vk,vt,h1,h2,h3,h4,h5,h6⟩:=R.rs.tr.ex;have e: #[pZZ d,.slice A T.length c,v1,v2]=#[pZZ d1,.slice A1 T.length c1,vk,vt]:=by have:=hB0.symm.trans h1;injection this with this;injection this
 simp only[Array.mk.injEq,List.cons.injEq,Value.pointer.injEq,aDB.injEq,Addr.mk.injEq,aBX.injEq,and_true,true_and] at e;obtain⟨ed,⟨rfl,rfl⟩,_⟩:=e;subst ed;have hng:=R.rs.tr.ne;refine⟨⟨(ho g R.rs.tr.kg (Ne.symm hng)).trans R.rs.rd,R.rs.tr.kg,R.rs.tr.kt,hng,d,A,c,D,E,v1',v2',hB,h2,h3,(ho d h2 hdn).trans h4,?_,h6⟩,R.dL.after hs,R.hi,R.hb⟩;exact hrow.keep hs fun x hx _=>⟨ho x hx.1 hx.2.2,hx.1,hx.2.1⟩
end
structure vX(w:World)(F:Nat->Prop)(gt d:Nat)(A:Option Addr)(c:Nat)(T:List Tk)(ks:List Tr.Kd)(ts:List Tr.PT):Prop where
 ex: ∃Av cv At ct vs us,aV w gt 131 #[pZZ d,.slice A T.length c,.slice Av ks.length cv,.slice At ts.length ct]/\ks.length<=cv/\ts.length<=ct/\fP w F Av vs/\nE w F ks vs/\fP w F At us/\eF w F ts us
theorem UE{B:Nat}{t:TypeId}{sz:Nat}{A:Option Addr}{n c:Nat}{vs:List Value}{F:Nat->Prop}(h:w.ownsRow B t sz (.slice A n c) n vs)(hF: ∀q,(aBX A n c).ownBlock=some q->F q):n<=c/\fP w F A vs:=by
 refine⟨?_,fun hn=> ?_⟩
 ·rcases h.2 with ⟨e,e2⟩|⟨q,cap,cur,e,_,_,hle,_⟩
  ·injection e;omega
  ·injection e with _ _ e3;omega
 ·rcases h.2 with ⟨e,e2⟩|⟨q,cap,cur,e,_,hq,hle,_,hz,hx⟩
  ·have:=h.1;rw[e2,Nat.zero_mul] at this;omega
  ·injection e with e1 e2 e3;subst e1;refine⟨q,0,rfl,hF q rfl,qX hq,fun j u hu=> ?_⟩;rw[Nat.zero_add];have h0:=h;subst e3;exact CK h0 j u hu
theorem PR.done {F:Nat->Prop}{gt d:Nat}{A:Option Addr}{c:Nat}{T:List Tk}{ks:List Tr.Kd}{Av:Option Addr}{cv:Nat}{vs:List Value}{ts:List Tr.PT}{At:Option Addr}{ct:Nat}{us:List Value}(h:PR w K gt d A T.length c ks Av cv vs ts At ct us)(hF: ∀x,¬K x->F x):vX w F gt d A c T ks ts:=by
 obtain⟨h1,h2⟩:=UE (F:=F) h.IW fun q hq=>hF q (h.ru q hq)
 obtain⟨h3,h4⟩:=UE (F:=F) h.FD fun q hq=>hF q (h.rq q hq)
 exact⟨Av,cv,At,ct,vs,us,h.blk,h1,h3,h2,nE.keep (aBT _) (fun x hx _=>⟨rfl,hF x hx.1⟩) _ _ h.kids,h4,eF.keep (aBT _) (fun x hx _=>⟨rfl,hF x hx.1⟩) _ _ h.tail⟩
end Go.Proofs.YtcjjfeephaddcaaGreatDoor
