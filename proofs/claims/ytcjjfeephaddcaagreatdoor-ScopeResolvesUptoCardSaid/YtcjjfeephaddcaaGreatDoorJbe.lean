import Derived.Test.YtcjjfeephaddcaaGreatDoorJbd
set_option linter.all false
open Array renaming getD_eq_getD_getElem?->aDS,getElem?_eq_getElem->aGF
open Go.IntKind renaming i64->aCQ
open Go.IntWalk renaming i64_in->aCV
open Go.Proofs.Tryz renaming prog->aBS
open Go.Region renaming ready->aCX
open Go.RowKit.Below renaming refl->aBU
open Go.Value renaming oneCell'->aCA
open Go.World renaming setCell->aCI,news_of_block->aCK,cell?_of_block->aCM
open List renaming mem_singleton->aCH,mem_cons->aCJ,append_assoc->aCL,append_nil->aCO,nodup_append->aEC,mem_cons_self->aFD
open Nat renaming le_refl->aBT,zero_le->aBZ,lt_of_lt_of_le->aCF,lt_irrefl->aDR
set_option maxHeartbeats 64000000
set_option maxRecDepth 100000
open Go.Proofs.Tryz
namespace Go.Proofs.YtcjjfeephaddcaaGreatDoor
open Go.RowKit
variable{x:Nat}{X:List Nat}{w w':World}
section
variable{w:World}{g k tok:Nat}{t:Bs}{A:Option Addr}{m c:Nat}{a e f u:Int}{b:Bool}
theorem bW(h:aV w g 93 (sK k tok t A m c a e f u b)):
  w.cell? ⟨g,0,none⟩=some (vZZ k)/\w.cell? ⟨g,1,none⟩=some (vZZ tok)/\w.cell? ⟨g,2,none⟩=some (.string ⟨t.toArray⟩)/\w.cell? ⟨g,3,none⟩=some (.slice A m c)/\w.cell? ⟨g,4,none⟩=some (kZZ a)/\w.cell? ⟨g,5,none⟩=some (kZZ e)/\w.cell? ⟨g,6,none⟩=some (kZZ f)/\w.cell? ⟨g,7,none⟩=some (kZZ u)/\w.cell? ⟨g,8,none⟩=some (.bool b):=by
 refine⟨h.cell 0,h.cell 1,h.cell 2,h.cell 3,h.cell 4,h.cell 5,h.cell 6,h.cell 7,h.cell 8⟩
end
def PutE(w:World)(g:Nat)(cs:Array Value)(n:Nat)(e:Ending)(w':World):Prop:=
 e=.returned (.int .i64 (n:Int))/\lF [g] w w'/\aV w' g 93 cs
theorem Qi{w0:World}{g tok x:Nat}{t:Bs}(hB:aV w0 g 93 (sK 0 tok t none 0 0 0 0 0 0 false))(a:Nat)(ha:a+t.length<=1000000000000):
  Calls aBS 77 #[pZZ g,vZZ a] w0 (PutE w0 g (IV 0 tok t none 0 0 a (Tr.gF (.leaf tok t x) a)) (a+t.length)):=by
 have hT:lF [g] w0 w0:=⟨rfl,fun _ _=>rfl,fun y hy=>by simp only[aCH] at hy;subst hy;exact⟨_,_,_,_,_,_,_,_,_,_,_,hB⟩,Calm.refl _⟩;have a0:aCQ.wrap ((a:Int)+t.length)=(a:Int)+t.length:=aCV _ (by omega);have Ha:aC (((a+t.length:Nat):Int)=(a:Int)+t.length):=by show _=_;omega
 have Ch:aC (tok=1\/tok=2->Tr.gF (.leaf tok t x) a=⟨a+t.length, -1, -1,false⟩):=fun h=>by unfold Tr.gF;rw[if_pos h]
 have HP0:aC (¬(tok=1\/tok=2)->Tr.gF (.leaf tok t x) a=⟨a+t.length,(a:Int),((a+t.length:Nat):Int),false⟩):=fun h=>by unfold Tr.gF;rw[if_neg h]
 generalize Tr.gF (.leaf tok t x) a=pl at *;clear ha
 go_enter func77,ntmps77
 obtain⟨z0,z1,z2,z3,z4,z5,z6,z7,z8⟩:=bW hB;have y4:=hB.frozen 4;have y5:=hB.frozen 5;have y6:=hB.frozen 6;have y7:=hB.frozen 7;have y8:=hB.frozen 8;go_upto_region 2 with fail;have hT:=hT.trans (fE hB 4 (vZZ a));have hB:=(iF hB).1 (a:Int);clear z0 z1 z2 z3 z4 z5 z6 z7 z8 y4 y5 y6 y7 y8;generalize w0.setCell _ _=w2 at *;obtain⟨z0,z1,z2,z3,z4,z5,z6,z7,z8⟩:=bW hB;have y4:=hB.frozen 4;have y5:=hB.frozen 5;have y6:=hB.frozen 6;have y7:=hB.frozen 7;have y8:=hB.frozen 8;go_upto_region 3 with fail;have hT:=hT.trans (fE hB 6 (kZZ (-1)));have hB:=(iF hB).2.2.1 (-1);clear z0 z1 z2 z3 z4 z5 z6 z7 z8 y4 y5 y6 y7 y8;generalize w2.setCell _ _=w3 at *;obtain⟨z0,z1,z2,z3,z4,z5,z6,z7,z8⟩:=bW hB;have y4:=hB.frozen 4;have y5:=hB.frozen 5;have y6:=hB.frozen 6;have y7:=hB.frozen 7;have y8:=hB.frozen 8;go_upto_region 4 with fail;have hT:=hT.trans (fE hB 7 (kZZ (-1)));have hB:=(iF hB).2.2.2.1 (-1);clear z0 z1 z2 z3 z4 z5 z6 z7 z8 y4 y5 y6 y7 y8;generalize w3.setCell _ _=w4 at *;obtain⟨z0,z1,z2,z3,z4,z5,z6,z7,z8⟩:=bW hB;have y4:=hB.frozen 4;have y5:=hB.frozen 5;have y6:=hB.frozen 6;have y7:=hB.frozen 7;have y8:=hB.frozen 8;go_upto_region 6 with fail;have hT:=hT.trans (fE hB 5 (kZZ ((a:Int)+t.length)));have hB:=(iF hB).2.1 ((a:Int)+t.length);clear z0 z1 z2 z3 z4 z5 z6 z7 z8 y4 y5 y6 y7 y8;generalize w4.setCell _ _=w5 at *;obtain⟨z0,z1,z2,z3,z4,z5,z6,z7,z8⟩:=bW hB;have y4:=hB.frozen 4;have y5:=hB.frozen 5;have y6:=hB.frozen 6;have y7:=hB.frozen 7;have y8:=hB.frozen 8
 by_cases k1:tok=1
 ·have HV:=aB (Ch.o (.inl k1));subst k1;clear Ch HP0;go_wp2_with fail;go_ret;exact⟨by rw[Ha.o];rfl,hT,by rw[HV.o];unfold IV;dsimp only;rw[Ha.o];exact hB⟩
 ·have e1:((tok:Int)==1)=false:=(by simp;omega);have n1:((tok:Int) !=1)=true:=by rw[bne,e1];rfl
  by_cases k2:tok=2
  ·have HV:=aB (Ch.o (.inr k2));subst k2;clear Ch HP0 k1;go_wp2_with fail;go_ret;exact⟨by rw[Ha.o];rfl,hT,by rw[HV.o];unfold IV;dsimp only;rw[Ha.o];exact hB⟩
  ·have e2:((tok:Int)==2)=false:=(by simp;omega);have n2:((tok:Int) !=2)=true:=(by rw[bne,e2];rfl);have HV:=aB (HP0.o (fun h=>h.elim k1 k2));clear Ch HP0 k1 k2;go_upto_region 7 with fail;clear z0 z1 z2 z3 z4 z5 z6 z7 z8 y4 y5 y6 y7 y8;obtain⟨z0,z1,z2,z3,z4,z5,z6,z7,z8⟩:=bW hB;have y4:=hB.frozen 4;have y5:=hB.frozen 5;have y6:=hB.frozen 6;have y7:=hB.frozen 7;have y8:=hB.frozen 8;go_upto_region 8 with fail;have hT:=hT.trans (fE hB 6 (vZZ a));have hB:=(iF hB).2.2.1 (a:Int);clear z0 z1 z2 z3 z4 z5 z6 z7 z8 y4 y5 y6 y7 y8;generalize w5.setCell _ _=w6 at *;obtain⟨z0,z1,z2,z3,z4,z5,z6,z7,z8⟩:=bW hB;have y4:=hB.frozen 4;have y5:=hB.frozen 5;have y6:=hB.frozen 6;have y7:=hB.frozen 7;have y8:=hB.frozen 8;go_upto_region 9 with fail;have hT:=hT.trans (fE hB 7 (kZZ ((a:Int)+t.length)));have hB:=(iF hB).2.2.2.1 ((a:Int)+t.length);clear z0 z1 z2 z3 z4 z5 z6 z7 z8 y4 y5 y6 y7 y8;generalize w6.setCell _ _=w7 at *;obtain⟨z0,z1,z2,z3,z4,z5,z6,z7,z8⟩:=bW hB;have y4:=hB.frozen 4;have y5:=hB.frozen 5;have y6:=hB.frozen 6;have y7:=hB.frozen 7;have y8:=hB.frozen 8;go_wp2_with fail;go_ret;exact⟨by rw[Ha.o];rfl,hT,by rw[HV.o];unfold IV;dsimp only;rw[Ha.o];exact hB⟩
theorem Zm{w0:World}{g x:Nat}{t:Bs}{d:Bool}(hB:aV w0 g 93 (sK 1 0 t none 0 0 0 0 0 0 false))(a:Nat):
  Calls aBS 77 #[pZZ g,vZZ a] w0 (PutE w0 g (IV 1 0 t none 0 0 a (Tr.gF (.gap t x d) a)) a):=by
 have hT:lF [g] w0 w0:=⟨rfl,fun _ _=>rfl,fun y hy=>by simp only[aCH] at hy;subst hy;exact⟨_,_,_,_,_,_,_,_,_,_,_,hB⟩,Calm.refl _⟩;have HV:aC (Tr.gF (.gap t x d) a=⟨a, -1, -1,true⟩):=by show _=_;unfold Tr.gF;rfl
 generalize Tr.gF (.gap t x d) a=pl at *
 go_enter func77,ntmps77
 obtain⟨z0,z1,z2,z3,z4,z5,z6,z7,z8⟩:=bW hB;have y4:=hB.frozen 4;have y5:=hB.frozen 5;have y6:=hB.frozen 6;have y7:=hB.frozen 7;have y8:=hB.frozen 8;go_upto_region 2 with fail;have hT:=hT.trans (fE hB 4 (vZZ a));have hB:=(iF hB).1 (a:Int);clear z0 z1 z2 z3 z4 z5 z6 z7 z8 y4 y5 y6 y7 y8;generalize w0.setCell _ _=w2 at *;obtain⟨z0,z1,z2,z3,z4,z5,z6,z7,z8⟩:=bW hB;have y4:=hB.frozen 4;have y5:=hB.frozen 5;have y6:=hB.frozen 6;have y7:=hB.frozen 7;have y8:=hB.frozen 8;go_upto_region 3 with fail;have hT:=hT.trans (fE hB 6 (kZZ (-1)));have hB:=(iF hB).2.2.1 (-1);clear z0 z1 z2 z3 z4 z5 z6 z7 z8 y4 y5 y6 y7 y8;generalize w2.setCell _ _=w3 at *;obtain⟨z0,z1,z2,z3,z4,z5,z6,z7,z8⟩:=bW hB;have y4:=hB.frozen 4;have y5:=hB.frozen 5;have y6:=hB.frozen 6;have y7:=hB.frozen 7;have y8:=hB.frozen 8;go_upto_region 4 with fail;have hT:=hT.trans (fE hB 7 (kZZ (-1)));have hB:=(iF hB).2.2.2.1 (-1);clear z0 z1 z2 z3 z4 z5 z6 z7 z8 y4 y5 y6 y7 y8;generalize w3.setCell _ _=w4 at *;obtain⟨z0,z1,z2,z3,z4,z5,z6,z7,z8⟩:=bW hB;have y4:=hB.frozen 4;have y5:=hB.frozen 5;have y6:=hB.frozen 6;have y7:=hB.frozen 7;have y8:=hB.frozen 8;go_upto_region 11 with fail;have hT:=hT.trans (fE hB 8 (.bool true));have hB:=(iF hB).2.2.2.2 true;clear z0 z1 z2 z3 z4 z5 z6 z7 z8 y4 y5 y6 y7 y8;generalize w4.setCell _ _=w5 at *;obtain⟨z0,z1,z2,z3,z4,z5,z6,z7,z8⟩:=bW hB;have y4:=hB.frozen 4;have y5:=hB.frozen 5;have y6:=hB.frozen 6;have y7:=hB.frozen 7;have y8:=hB.frozen 8;go_wp2_with fail;clear z0 z1 z2 z3 z4 z5 z6 z7 z8 y4 y5 y6 y7 y8
 go_loopg [1,5] 0 (fun q v u wr=>v=vZZ a/\u=kZZ 0/\lF [g] w0 wr/\aV wr g 93 (sK 1 0 t none 0 0 (a:Int) 0 (-1) (-1) true))
 case atStart=>exact⟨rfl,rfl,hT,hB⟩
 case round=>clear hT hB;obtain⟨rfl,rfl,hT,hB⟩:=hrel;obtain⟨z0,z1,z2,z3,z4,z5,z6,z7,z8⟩:=bW hB;have y4:=hB.frozen 4;have y5:=hB.frozen 5;have y6:=hB.frozen 6;have y7:=hB.frozen 7;have y8:=hB.frozen 8;go_upto_region 23 with fail;have hT:=hT.trans (fE hB 5 (vZZ a));have hB:=(iF hB).2.1 (a:Int);clear z0 z1 z2 z3 z4 z5 z6 z7 z8 y4 y5 y6 y7 y8;generalize wr.setCell _ _=w6 at *;go_wp2_with fail;go_ret;exact⟨rfl,hT,by rw[HV.o];exact hB⟩
def Wo(p:Tr.PT):Prop:= ∀(w:World) (F:Nat->Prop) (fp:List Nat) (v:Value) (a:Nat),wQ w F p fp v->fp.Nodup->a+Tr.jF p<=1000000000000->
 Calls aBS 77 #[v,vZZ a] w fun e w'=>e=.returned (kZZ ((Tr.gF p a).end_:Int))/\lF fp w w'/\EE w' F p a fp v
theorem lF.UG {Y:List Nat}{w1:World}(h:lF Y w w1)(h':lF X w1 w')(hX: ∀x∈X,x∈Y):lF Y w w':=⟨h'.size.trans h.size,fun x hx=>(h'.sI x fun hm=>hx (hX x hm)).trans (h.sI x hx),h.nodes,h.calm.trans h'.calm⟩
theorem lF.drewN (h:lF X w w')(n:Nat):lF X w (w'.drewN n):=⟨h.size,h.sI,h.nodes,h.calm.os,h.calm.tape,h.calm.output⟩
theorem lF.cell (h:lF X w w'){q i:Nat}{v:Value}(hq:q∉X)(hc:w.cell? ⟨q,i,none⟩=some v):w'.cell? ⟨q,i,none⟩=some v:=(aCM (a:=⟨q,i,none⟩) (h.sI q hq)).trans hc
theorem PZ: ∀(l1:List Tr.PT) (p:Tr.PT) (l2:List Tr.PT),Tr.jC l1+Tr.jF p<=Tr.jC (l1++p::l2)
 | [],p,l2=>by simp only[List.nil_append,Tr.jC];omega
 |q::l1,p,l2=>by have:=PZ l1 p l2;simp only[List.cons_append,Tr.jC];omega
theorem T9{k:Nat}{l:List Tr.PT}(hk:2<=k)(hlen:l.length<=1000000000)(IH: ∀p∈l,Wo p):Wo (.branch k x l):=by
 intro w0 F fp v a h hnd ha;obtain⟨g,dB,rfl,rfl,hF,A,c,vs,hB,hc,hr,hp⟩:=h;have hgf:g∉dB:=(List.nodup_cons.1 hnd).1;have hnd:=(List.nodup_cons.1 hnd).2;have hB:aV w0 g 93 (sK k 0 [] A l.length c 0 0 0 0 false):=hB;have hT:lF (g::dB) w0 w0:=⟨rfl,fun _ _=>rfl,fun y hy=>by
  rcases aCJ.1 hy with rfl|hy
  ·exact⟨_,_,_,_,_,_,_,_,_,_,_,hB⟩
  ·exact gV.nodes _ _ _ hp y hy,Calm.refl _⟩
 have hG:lF [g] w0 w0:=⟨rfl,fun _ _=>rfl,fun y hy=>by simp only[aCH] at hy;subst hy;exact⟨_,_,_,_,_,_,_,_,_,_,_,hB⟩,Calm.refl _⟩;have hwide:a+Tr.jC l<=1000000000000:=by unfold Tr.jF at ha;exact ha
 have I_:=hp.ptrs;have HV:aC (Tr.gF (.branch k x l) a=Tr.fA l ⟨a, -1, -1,false⟩):=by show _=_;unfold Tr.gF;rfl
 have HN:aC (∀w',lF (g::dB) w0 w'->aV w' g 93 (sK k 0 [] A l.length c a (Tr.fA l ⟨a, -1, -1,false⟩).end_ (Tr.fA l ⟨a, -1, -1,false⟩).from_ (Tr.fA l ⟨a, -1, -1,false⟩).oJ (Tr.fA l ⟨a, -1, -1,false⟩).lacks)->jZ w' F l a dB vs->EE w' F (.branch k x l) a (g::dB) (pZZ g)):=fun w' hT hB hN=>⟨g,dB,rfl,rfl,hF,A,c,vs,by rw[HV.o];exact hB,hc,hr.turn hT I_,hN⟩
 have HR:aC (∀w',lF (g::dB) w0 w'->fP w' F A vs):=fun w' hT=>hr.turn hT I_
 rw[HV.o];clear HV ha I_;obtain⟨s0,hs0⟩: ∃s0:Tr.Pl,s0=⟨a, -1, -1,false⟩:=⟨_,rfl⟩;have He0:aC (s0.end_=a):=by show _=_;rw[hs0]
 have Hs0:=aB hs0;rw[<-hs0] at HN⊢;clear hs0;have e0:((k:Int)==0)=false:=by simp;omega
 have e1:((k:Int)==1)=false:=by simp;omega
 have Hlen:=aB hlen;have aBJ:=aB hwide;clear hk hF hc hr hlen hwide
 go_enter func77,ntmps77
 obtain⟨z0,z1,z2,z3,z4,z5,z6,z7,z8⟩:=bW hB;have y4:=hB.frozen 4;have y5:=hB.frozen 5;have y6:=hB.frozen 6;have y7:=hB.frozen 7;have y8:=hB.frozen 8;go_upto_region 2 with fail;have hG:=hG.trans (fE hB 4 (vZZ a));have hB:=(iF hB).1 (a:Int);clear z0 z1 z2 z3 z4 z5 z6 z7 z8 y4 y5 y6 y7 y8;generalize w0.setCell _ _=w2 at *;obtain⟨z0,z1,z2,z3,z4,z5,z6,z7,z8⟩:=bW hB;have y4:=hB.frozen 4;have y5:=hB.frozen 5;have y6:=hB.frozen 6;have y7:=hB.frozen 7;have y8:=hB.frozen 8;go_upto_region 3 with fail;have hG:=hG.trans (fE hB 6 (kZZ (-1)));have hB:=(iF hB).2.2.1 (-1);clear z0 z1 z2 z3 z4 z5 z6 z7 z8 y4 y5 y6 y7 y8;generalize w2.setCell _ _=w3 at *;obtain⟨z0,z1,z2,z3,z4,z5,z6,z7,z8⟩:=bW hB;have y4:=hB.frozen 4;have y5:=hB.frozen 5;have y6:=hB.frozen 6;have y7:=hB.frozen 7;have y8:=hB.frozen 8;go_upto_region 4 with fail;have hG:=hG.trans (fE hB 7 (kZZ (-1)));have hB:=(iF hB).2.2.2.1 (-1);clear z0 z1 z2 z3 z4 z5 z6 z7 z8 y4 y5 y6 y7 y8;generalize w3.setCell _ _=w4 at *;obtain⟨z0,z1,z2,z3,z4,z5,z6,z7,z8⟩:=bW hB;have y4:=hB.frozen 4;have y5:=hB.frozen 5;have y6:=hB.frozen 6;have y7:=hB.frozen 7;have y8:=hB.frozen 8;go_upto_region 11 with fail;have hG:=hG.trans (fE hB 8 (.bool false));have hB:=(iF hB).2.2.2.2 false;clear z0 z1 z2 z3 z4 z5 z6 z7 z8 y4 y5 y6 y7 y8;generalize w4.setCell _ _=w5 at *;have hT:=hT.UG hG (fun y hy=>by simp only[aCH] at hy;subst hy;exact aFD ..);have hp:=gV.turn hG _ _ _ (fun y hy hm=>by simp only[aCH] at hm;subst hm;exact hgf hy) hp;clear hG;go_wp2_with fail
 go_loopg [1,5] l.length (fun m v u wr=> ∃l1 l2 PH aAj vs1 vs2,aC (l=l1++l2)/\aC (dB=PH++aAj)/\aC (vs=vs1++vs2)/\v=kZZ ((Tr.fA l1 s0).end_:Int)/\u=kZZ (l1.length:Int)/\l2.length<=m/\lF (g::dB) w0 wr/\aV wr g 93 (sK k 0 [] A l.length c a 0 (Tr.fA l1 s0).from_ (Tr.fA l1 s0).oJ (Tr.fA l1 s0).lacks)/\jZ wr F l1 s0.end_ PH vs1/\gV wr F l2 aAj vs2)
 case atStart=>
  refine⟨[],l,[],dB,[],vs,rfl,rfl,rfl,?_,rfl,aBT _,hT,?_,⟨rfl,rfl⟩,hp⟩
  ·simp only[Tr.fA];rw[He0.o]
  ·simp only[Tr.fA];rw[Hs0.o];exact hB
 case round=>
  clear hT hB hp;obtain⟨l1,l2,PH,aAj,vs1,vs2,Hl,Hf,Hv,rfl,rfl,hm,hT,hB,hN1,hN2⟩:=hrel;have hG:lF [g] wr wr:=⟨rfl,fun _ _=>rfl,fun y hy=>by simp only[aCH] at hy;subst hy;exact⟨_,_,_,_,_,_,_,_,_,_,_,hB⟩,Calm.refl _⟩;rcases l2 with _|⟨p,l2⟩
  ·obtain⟨rfl,rfl⟩:=hN2;have hl:l1=l:=(by rw[Hl.o,aCO]);have hf:PH=dB:=(by rw[Hf.o,aCO]);have hv:vs1=vs:=(by rw[Hv.o,aCO]);subst hl hf hv;clear Hl Hf Hv hm HR IH;generalize hst:Tr.fA l1 s0=st at *;have d0:=kZ l1.length;obtain⟨z0,z1,z2,z3,z4,z5,z6,z7,z8⟩:=bW hB;have y4:=hB.frozen 4;have y5:=hB.frozen 5;have y6:=hB.frozen 6;have y7:=hB.frozen 7;have y8:=hB.frozen 8;go_upto_region 23 with fail;have hG:=hG.trans (fE hB 5 (kZZ (st.end_:Int)));have hB:=(iF hB).2.1 (st.end_:Int);clear z0 z1 z2 z3 z4 z5 z6 z7 z8 y4 y5 y6 y7 y8;generalize wr.setCell _ _=w6 at *;have hT:=hT.UG hG (fun y hy=>by simp only[aCH] at hy;subst hy;exact aFD ..);have hN:=jZ.turn hG _ _ _ _ (fun y hy hm=>by simp only[aCH] at hm;subst hm;exact hgf hy) hN1;rw[He0.o] at hN;go_wp2_with fail;go_ret;subst hst;exact⟨rfl,hT,HN.o _ hT hB hN⟩
  ·obtain⟨fp,A9,v,zk,rfl,rfl,vO,hN2⟩:=hN2;have hlt:l1.length<l.length:=(by rw[Hl.o];simp);have hlen:=Hlen.o;have i0:(0:Int)<=(l1.length:Int):=(by omega);have i1:(l1.length:Int)<(l.length:Int):=(by omega);have hvl:=hN1.len;obtain⟨bb,oo,rfl,hcell⟩:=(HR.o _ hT).at_ (i:=l1.length) (u:=v) (by rw[Hv.o,<-hvl];simp);have hx:=IH p (by rw[Hl.o];simp) wr F fp v (Tr.fA l1 s0).end_ vO (by have:=hnd;rw[Hf.o] at this;exact(aEC.1 (aEC.1 this).2.1).1) (by rw[Tr.CF,He0.o];have:=PZ l1 p l2;rw[<-Hl.o] at this;have:=aBJ.o;omega);obtain⟨q0,rfl⟩:=vO.form;obtain⟨z0,z1,z2,z3,z4,z5,z6,z7,z8⟩:=bW hB;have y4:=hB.frozen 4;have y5:=hB.frozen 5;have y6:=hB.frozen 6;have y7:=hB.frozen 7;have y8:=hB.frozen 8;have kC:aC (Tr.fA (l1++[p]) s0=Tr.CR (Tr.fA l1 s0) (Tr.gF p (Tr.fA l1 s0).end_)):=Tr.YB l1 p s0;have hN1':jZ wr F l1 s0.end_ PH vs1:=hN1;have Hi1:=aB hlt;clear hlen hlt;generalize hst:Tr.fA l1 s0=st at *;generalize hpl:Tr.gF p st.end_=q at *;go_wp2_with fail;refine hx.mono ?_;clear hx z0 z1 z2 z3 z4 z5 z6 z7 z8 y4 y5 y6 y7 y8 hcell;rintro e1 w6 ⟨rfl,hTp,hNp⟩;have S_:g∉fp:=fun hm=>hgf (by rw[Hf.o];simp[hm])
   have hB:aV w6 g 93 (sK k 0 [] (some ⟨bb,oo,none⟩) l.length c a 0 st.from_ st.oJ st.lacks):=(hTp.sI g S_).trans hB;have hfn:=hnd;rw[Hf.o] at hfn;have hd1: ∀y∈PH,y∉fp:=fun y hy hm=>(aEC.1 hfn).2.2 y hy y (by simp[hm]) rfl
   have hd2: ∀y∈A9,y∉fp:=fun y hy hm=>(aEC.1 (aEC.1 hfn).2.1).2.2 y hm y hy rfl
   have hN1:=jZ.turn hTp _ _ _ _ hd1 hN1;have hN2:=gV.turn hTp _ _ _ hd2 hN2;have hT:=hT.UG hTp (fun y hy=>List.mem_cons_of_mem _ (by rw[Hf.o];simp[hy]));have hN:=jZ.snoc hN1 (by rw[hst];exact hNp);obtain⟨q1,kk,tok,tt,A1,m1,c1,eq1,hq1,hBq⟩:=hNp.head;obtain rfl:q0=q1:=(by simpa using eq1);rw[hpl] at hBq;have hqg:q0≠g:=fun e=>S_ (e▸hq1)
   have Hqg:=aB hqg;have HfG:aC (∀y∈PH++fp,y≠g):=fun y hy e=>hgf (by rw[Hf.o];subst e;rcases List.mem_append.1 hy with h|h<;>simp[h])
   have yu:aC (∀y∈A9,y≠g):=fun y hy e=>hgf (by rw[Hf.o];subst e;simp[hy])
   clear hTp hN1 hNp hd1 hd2 hfn S_ eq1 hq1 hpl hst hG hN1' hqg;have hGk: ∀w',lF [g] w6 w'->lF (g::dB) w0 w'/\jZ w' F (l1++[p]) s0.end_ (PH++fp) (vs1++[pZZ q0])/\gV w' F l2 A9 zk:=fun w' hG=>⟨hT.UG hG (fun y hy=>by simp only[aCH] at hy;subst hy;exact aFD ..),jZ.turn hG _ _ _ _ (fun y hy hm=>by simp only[aCH] at hm;exact HfG.o y hy hm) hN,gV.turn hG _ _ _ (fun y hy hm=>by simp only[aCH] at hm;exact yu.o y hy hm) hN2⟩
   have HG:=aB hGk;clear hGk hT hN hN2 HfG yu;obtain⟨F1,hF1⟩:=dC ((if st.from_<0 then q.from_ else st.from_));obtain⟨U1,hU1⟩:=dC ((if st.oJ<q.oJ then q.oJ else st.oJ));have PS:aC (Tr.fA (l1++[p]) s0=⟨q.end_,F1,U1,st.lacks||q.lacks⟩):=(by show _=_;rw[kC.o,hF1,hU1];rfl);have qh:=aB hF1;have HU1:=aB hU1;clear hF1 hU1 kC;have hG:lF [g] w6 w6:=⟨rfl,fun _ _=>rfl,fun y hy=>by simp only[aCH] at hy;subst hy;exact⟨_,_,_,_,_,_,_,_,_,_,_,hB⟩,Calm.refl _⟩;have hBq:=bW hBq;obtain⟨_,_,_,_,_,_,p6,p7,p8⟩:=hBq;obtain⟨z0,z1,z2,z3,z4,z5,z6,z7,z8⟩:=bW hB;have y4:=hB.frozen 4;have y5:=hB.frozen 5;have y6:=hB.frozen 6;have y7:=hB.frozen 7;have y8:=hB.frozen 8;go_upto_if 90 with fail
   go_cut [90] (fun _ wc=>lF [g] w6 wc/\aV wc g 93 (sK k 0 [] (some ⟨bb,oo,none⟩) l.length c a 0 F1 st.oJ st.lacks))
   case first=>
    by_cases hneg:st.from_<0
    ·have hf:aC (q.from_=F1):=(by show _=_;rw[qh.o,if_pos hneg]);clear qh HU1 PS HG;go_wp2_with fail;go_meet;exact⟨hG.trans (fE hB 6 (kZZ q.from_)),by rw[<-hf.out];exact(iF hB).2.2.1 q.from_⟩
    ·have hf:aC (st.from_=F1):=(by show _=_;rw[qh.o,if_neg hneg]);clear qh HU1 PS HG;go_wp2_with fail;go_meet;exact⟨hG,by rw[<-hf.out];exact hB⟩
   case rest=>
   clear hG hB z0 z1 z2 z3 z4 z5 z6 z7 z8 y4 y5 y6 y7 y8 qh;obtain⟨hG,hB⟩:=hcut;have q7:=hG.cell (fun hm=>Hqg.o (by simpa using hm)) p7;have q8:=hG.cell (fun hm=>Hqg.o (by simpa using hm)) p8;obtain⟨z0,z1,z2,z3,z4,z5,z6,z7,z8⟩:=bW hB;have y4:=hB.frozen 4;have y5:=hB.frozen 5;have y6:=hB.frozen 6;have y7:=hB.frozen 7;have y8:=hB.frozen 8;go_wp2_with fail
   go_quiet (fail)
   have hG:=hG.drewN nq;have hB:aV (wc.drewN nq) g 93 (sK k 0 [] (some ⟨bb,oo,none⟩) l.length c a 0 F1 st.oJ st.lacks):=hB;have q7:(wc.drewN nq).cell? ⟨q0,7,none⟩=_:=q7;have q8:(wc.drewN nq).cell? ⟨q0,8,none⟩=_:=q8;clear z0 z1 z2 z3 z4 z5 z6 z7 z8 y4 y5 y6 y7 y8 p6 p7 p8;generalize wc.drewN nq=wd at *;obtain⟨z0,z1,z2,z3,z4,z5,z6,z7,z8⟩:=bW hB;have y4:=hB.frozen 4;have y5:=hB.frozen 5;have y6:=hB.frozen 6;have y7:=hB.frozen 7;have y8:=hB.frozen 8;go_upto_if 106 with fail
   go_cut [106] (fun _ we=>lF [g] wd we/\aV we g 93 (sK k 0 [] (some ⟨bb,oo,none⟩) l.length c a 0 F1 U1 st.lacks))
   case first=>
    have hG0:lF [g] wd wd:=⟨rfl,fun _ _=>rfl,fun y hy=>by simp only[aCH] at hy;subst hy;exact⟨_,_,_,_,_,_,_,_,_,_,_,hB⟩,Calm.refl _⟩
    by_cases hneg:st.oJ<q.oJ
    ·have hf:aC (q.oJ=U1):=(by show _=_;rw[HU1.o,if_pos hneg]);clear HU1 PS HG;go_wp2_with fail;go_meet;exact⟨hG0.trans (fE hB 7 (kZZ q.oJ)),by rw[<-hf.out];exact(iF hB).2.2.2.1 q.oJ⟩
    ·have hf:aC (st.oJ=U1):=(by show _=_;rw[HU1.o,if_neg hneg]);clear HU1 PS HG;go_wp2_with fail;go_meet;exact⟨hG0,by rw[<-hf.out];exact hB⟩
   case rest=>
   clear hB z0 z1 z2 z3 z4 z5 z6 z7 z8 y4 y5 y6 y7 y8 HU1;obtain⟨hG2,hB⟩:=hcut;have q8:=hG2.cell (fun hm=>Hqg.o (by simpa using hm)) q8;have hG:=hG.trans hG2;clear hG2 q7;have Hk:aC (aCQ.wrap ((l1.length:Int)+1)=(l1.length:Int)+1):=(by show _=_;have:=Hi1.o;have:=Hlen.o;exact aCV _ (by omega));have hkw:=Hk.o;obtain⟨z0,z1,z2,z3,z4,z5,z6,z7,z8⟩:=bW hB;have y4:=hB.frozen 4;have y5:=hB.frozen 5;have y6:=hB.frozen 6;have y7:=hB.frozen 7;have y8:=hB.frozen 8;cases OL:q.lacks with
   |true=>
    rw[OL] at q8 PS;have HX:=aB (HG.o (wc.setCell ⟨g,8,none⟩ (.bool true)) (hG.trans (fE hB 8 (.bool true))));have hB2:=(iF hB).2.2.2.2 true;clear HG hG;go_wp2_with fail
    go_roundg l2.length
    case rel=>obtain⟨h1,h2,h3⟩:=HX.o;refine⟨l1++[p],l2,PH++fp,A9,vs1++[pZZ q0],zk,by show _=_;rw[Hl.o,aCL];rfl,by show _=_;rw[Hf.o,aCL],by show _=_;rw[Hv.o,aCL];rfl,by rw[PS.o],by simp,aBT _,h1,?_,h2,h3⟩;rw[PS.o];dsimp only;rw[Bool.or_true];exact hB2
    case measure=>simp at hm;omega
   |false=>
    rw[OL] at q8 PS;have HX:=aB (HG.o wc hG);clear HG hG;go_wp2_with fail
    go_roundg l2.length
    case rel=>obtain⟨h1,h2,h3⟩:=HX.o;refine⟨l1++[p],l2,PH++fp,A9,vs1++[pZZ q0],zk,by show _=_;rw[Hl.o,aCL];rfl,by show _=_;rw[Hf.o,aCL],by show _=_;rw[Hv.o,aCL];rfl,by rw[PS.o],by simp,aBT _,h1,?_,h2,h3⟩;rw[PS.o];dsimp only;rw[Bool.or_false];exact hB
    case measure=>simp at hm;omega
mutual
theorem Di: ∀p:Tr.PT,Tr.Nj p->Wo p
 | .leaf tok t x,_=>fun w F fp v a h hnd ha=>by obtain⟨g,rfl,rfl,hF,hB⟩:=h;unfold Tr.jF at ha;have he:(Tr.gF (.leaf tok t x) a).end_=a+t.length:=(by rw[Tr.sQ];unfold Tr.jF;rfl);refine(Qi (x:=x) hB a ha).mono fun e w' h=>⟨by rw[he];exact h.1,h.2.1,g,rfl,rfl,hF,h.2.2⟩
 | .gap t x d,_=>fun w F fp v a h hnd ha=>by obtain⟨g,rfl,rfl,hF,hB⟩:=h;have he:(Tr.gF (.gap t x d) a).end_=a:=(by rw[Tr.sQ];unfold Tr.jF;rfl);refine(Zm (x:=x) (d:=d) hB a).mono fun e w' h=>⟨by rw[he];exact h.1,h.2.1,g,rfl,rfl,hF,h.2.2⟩
 | .branch k x l,hw=>by unfold Tr.Nj at hw;exact T9 hw.1 hw.2.1 (YC l hw.2.2)
theorem YC: ∀l:List Tr.PT,Tr.wM l->∀p∈l,Wo p
 | [],_,p,hp=>absurd hp (by simp)
 |q::l,hw,p,hp=>by
  unfold Tr.wM at hw;rcases aCJ.1 hp with he|hp
  ·rw[he];exact Di q hw.1
  ·exact YC l hw.2 p hp
end
theorem Bn.whole {K:Nat->Prop}{h kind:Nat}{pts:List Tr.PT}(hb:Bn w K h kind pts)(at_:Nat): ∃fp,wQ w (fun x=> ¬K x) (.branch kind at_ pts) fp (pZZ h)/\fp.Nodup:=hb.part at_
mutual
theorem EE.weak {w:World}{F F':Nat->Prop}(hF: ∀x,F x->F' x): ∀(p:Tr.PT) (a:Nat) (fp:List Nat) (v:Value),EE w F p a fp v->EE w F' p a fp v
 | .leaf k t _,a,fp,v,h=>by obtain⟨g,e,rfl,h1,hB⟩:=h;exact⟨g,e,rfl,hF _ h1,hB⟩
 | .gap t _ d,a,fp,v,h=>by obtain⟨g,e,rfl,h1,hB⟩:=h;exact⟨g,e,rfl,hF _ h1,hB⟩
 | .branch k _ l,a,fp,v,h=>by obtain⟨g,dB,e,rfl,h1,A,c,vs,hB,hc,hr,hp⟩:=h;exact⟨g,dB,e,rfl,hF _ h1,A,c,vs,hB,hc,hr.keep (aBT _) (fun _ hb _=>⟨rfl,hF _ hb⟩),jZ.weak hF l a dB vs hp⟩
theorem jZ.weak {w:World}{F F':Nat->Prop}(hF: ∀x,F x->F' x): ∀(l:List Tr.PT) (a:Nat) (dB:List Nat) (vs:List Value),jZ w F l a dB vs->jZ w F' l a dB vs
 | [],_,_,_,h=>h
 |p::l,a,dB,vs,h=>by obtain⟨fp,kP,v,vs',rfl,e,hp,hl⟩:=h;exact⟨fp,kP,v,vs',rfl,e,EE.weak hF p a fp v hp,jZ.weak hF l _ kP vs' hl⟩
end
theorem XK(s:Bs)(T:List Tk)(i:Nat):Tr.sP s T i=bS s T 0 i T.length:=by
 unfold Tr.sP bS;rw[List.take_of_length_le (by rw[List.length_drop];exact aBT _)]
theorem TS(s:Bs)(w:World)(hs:s.length<=1048576):
  Calls aBS 36 #[.string ⟨s.toArray⟩] w fun e w'=> ∃q fp,e=.returned (pZZ q)/\EE w' (fun x=>w.heap.size<=x) (.branch 2 0 (Tr.vV s (Lx.dR 0 s))) 0 fp (pZZ q)/\fp.Nodup/\Below w.heap.size w w':=by
 obtain⟨i0,ji,iW,jz1,iV⟩:=info_parts tV;have htk:=BX s w (by omega);have Nl:=Lx.BU s.length 0 s (aBT _);obtain⟨hS,hW⟩:=Lx.KE s (by omega) Nl;obtain⟨T,hT⟩:=dC (Lx.dR 0 s);rw[<-hT] at htk Nl hS hW⊢;clear hT;have X:FZ s T:=⟨hS.good,by omega,by omega⟩;have hall:=Tr.I5 hS;have hput:Wo (.branch 2 0 (Tr.vV s T)):=Di _ (by unfold Tr.Nj;exact⟨aBT _,by omega,hall.2.1⟩);have hwide:Tr.jF (.branch 2 0 (Tr.vV s T))<=1000000000000:=by unfold Tr.jF;rw[Tr.uW,hall.1];omega
 have HW:=aB hwide;have HTl:aC (T.length<=1048576):=by show _<=_;omega
 clear hwide Nl hall hs
 go_enter func36,ntmps36
 go_wp2_with fail;refine htk.mono ?_;clear htk;rintro e1 w1 ⟨A0,c0,rfl,hrd,hd1⟩;have hd2:=nR w1 (.cells #[.string ⟨s.toArray⟩,.slice A0 T.length c0,kZZ 0,kZZ 0,.bool false] 163);have R:mO (w1.alloc (.cells #[.string ⟨s.toArray⟩,.slice A0 T.length c0,kZZ 0,kZZ 0,.bool false] 163)) (Old (w1.alloc (.cells #[.string ⟨s.toArray⟩,.slice A0 T.length c0,kZZ 0,kZZ 0,.bool false] 163))) w1.heap.size s T A0 c0 0 0 false:=by refine⟨aV.new _ _ _,fun hn=> ?_,by show _<_;simp,Old.WK _,aBZ _⟩;obtain⟨b,o,e,hb,hc⟩:=hrd.2 (by have:=rG T;omega);exact⟨b,o,e,⟨aCF hb hd2.size,by omega⟩,aCF hb hd2.size,fun j u hu=>(aCM (a:=⟨b,o+j,none⟩) (hd2.block b hb)).trans (hc j u hu)⟩
 have vQ:Below w.heap.size w (w1.alloc (.cells #[.string ⟨s.toArray⟩,.slice A0 T.length c0,kZZ 0,kZZ 0,.bool false] 163)):=hd1.trans (hd2.mono hd1.size);obtain⟨g,hg⟩:=dC w1.heap.size;rw[<-hg] at R;go_upto_region 3 with fail;rw[<-hg];have HG:aC (w.heap.size<=g):=by show _<=_;rw[hg];exact hd1.size
 clear hg hrd hd1 hd2;generalize w1.alloc _=w2 at *;have B:Bn (w2.alloc (.cells #[kZZ 2,kZZ 0,.string ⟨#[]⟩,nZZ,kZZ 0,kZZ 0,kZZ 0,kZZ 0,.bool false] 93)) (Old w2) w2.heap.size 2 []:=Bn.new (Old.WK w2) 2;have hd:=nR w2 (.cells #[kZZ 2,kZZ 0,.string ⟨#[]⟩,nZZ,kZZ 0,kZZ 0,kZZ 0,kZZ 0,.bool false] 93);have hA:=Kept.cZ (Kept.below hd (Old.WK w2)) g;have R:=R.below hd;clear hd;obtain⟨h,hh⟩:=dC w2.heap.size;rw[<-hh] at B;go_upto_region 4 with fail;rw[<-hh];clear hh;generalize w2.alloc _=w3 at *;have hkd:=qD X R;go_wp2_with fail;refine hkd.mono ?_;clear hkd;rintro e1 w4 ⟨rfl,rfl⟩;obtain⟨all,hal⟩:=dC (Tr.bV s T (T.length+1) 0);have HAll:aC (Tr.vV s T=all.1.map (·.part)++Tr.sP s T all.2):=by show _=_;rw[hal];rfl
 have Hal:aC (Tr.bV s T (T.length+1) 0=all):=hal.symm;clear hal;go_wp2_with fail
 go_loopg [6,7] (T.length) (fun m v u wr=> ∃(i:Nat) (ks:List Tr.PT) (cut:Bool),v=kZZ (Tr.bR T (Tr.aH T i):Int)/\T.length-i<=m/\fG (Old w2) g w2 wr/\mO wr (Old w2) g s T A0 c0 0 i cut/\Bn wr (Old w2) h 2 ks/\ks.length<=i/\aC (ks++(Tr.bV s T (T.length+1) i).1.map (·.part)=all.1.map (·.part))/\aC ((Tr.bV s T (T.length+1) i).2=all.2))
 case atStart=>exact⟨0,[],false,rfl,Nat.sub_le _ _,hA,R,B,aBT _,by show _=_;rw[Hal.o];rfl,by show _=_;rw[Hal.o]⟩
 case round=>
  clear hA R B Hal;obtain⟨i,ks,cut,rfl,hm,hA,R,B,hkl,Bw,Bv⟩:=hrel;have hi:=R.hi
  by_cases hnx:Tr.aH T i<T.length
  ·have hne: ¬Tr.bR T (Tr.aH T i)=0:=fun e=>(KD X.good i).1 e hnx
   have e0:((Tr.bR T (Tr.aH T i):Int) !=0)=true:=(by rw[bne,beq_eq_false_iff_ne.2 (by omega)];rfl);have hit:=Q8 X hW R.old hnx;have hst:=Tr.RL s T i hi hnx;have hgt:=Tr.FI s T i hi hnx;have hkp:(Tr.ah s T i).part=(Tr.dU s T i).1:=rfl;rw[hst] at Bw Bv;have Bw:aC ((ks++[(Tr.dU s T i).1])++(Tr.bV s T (T.length+1) (Tr.dU s T i).2).1.map (·.part)=all.1.map (·.part)):=(by show _=_;rw[<-Bw.o,aCL];rfl);have Bv:aC ((Tr.bV s T (T.length+1) (Tr.dU s T i).2).2=all.2):=Bv;have PW:=aB hgt;have Nl:=HTl.o;have Hkl:aC (ks.length<=1048576):=(by show _<=_;omega);have Hkl2:=aB hkl;have hk4:ks.length<=100000000:=(by omega);clear hst hgt hkp hne hnx Nl hkl;generalize Tr.bR T (Tr.aH T i)=kd at *;generalize Tr.dU s T i=r at *;go_wp2_with fail;refine hit.mono ?_;clear hit;intro e1 w6 h6;obtain⟨hp0,rfl,zD,R6,hu⟩:=h6;obtain⟨dB,A,c,vs,hb⟩:=B;have hp:=OE.of hu R.dL hb;have hb:=hb.cZ zD R.kg (fun _ hx=>hx);have zD:=zD.old R.dL;have R:=R.dH R6 zD;have hA:=hA.trans zD;clear zD R6 hu e0;have o1:=hb.blk.cell 3;simp[iG] at o1;have xI:=hb.blk.lt;go_upto_region 8 with (at_builtin;refine wpList_append_lies _ rfl _ _ 40 rfl 0 89 i0 _ 1 8 underlying40 ji iW jz1 iV rfl (by omega) (.slice A ks.length c) ks.length vs rfl (hb.own.alloc (.cells #[pZZ hp0] 89)) ⟨w6.heap.size,0,none⟩ 1 1 [pZZ hp0] rfl rfl (aCK (heap_alloc_new w6 _)) (by simp[aCA]) (by omega) (by unfold maxLen;omega) (by omega) (aBZ _) (w6.heap.size+1) (by simp) ?_;intro gg cap' w5 hown5 hgrow hat lD;obtain⟨b1,bf,hB,hk,R5⟩:=kV R hb hp hown5 hgrow hat);have R:=R5;have hA:=hA.trans (hk.cZ g);clear R5 hk hp hb o1 hown5 hgrow hat lD b1 bf;generalize(aCI _ _ (.slice (some ⟨gg,0,none⟩) (ks.length+1) cap'))=w7 at *;have hkd:=qD X R;go_wp2_with fail;refine hkd.mono ?_;clear hkd;rintro e1 w8 ⟨rfl,rfl⟩;go_wp2_with fail
   go_roundg (T.length-r.2)
   case rel=>exact⟨r.2,_,_,rfl,aBT _,hA,R,hB,by have:=PW.o;have:=Hkl2.o;simp;omega,Bw,Bv⟩
   case measure=>have:=PW.o;have:=R.hi;omega
  ·have hst:=Tr.RJ s T i hnx;rw[hst] at Bw Bv;have h2:i=all.2:=Bv.o;have HF:aC (Tr.vV s T=ks++bS s T 0 i T.length):=(by show _=_;have h1:=Bw.o;simp only[List.map_nil,aCO] at h1;rw[HAll.o,<-h1,<-h2,XK s T i]);have hk0:Tr.bR T (Tr.aH T i)=0:=(KD X.good i).2 hnx;have Nl:=HTl.o;have hk4:ks.length<=1048576:=(by omega);rw[hk0];clear hst Bw Bv HAll h2 hnx hm hkl hk0;go_wp2_with fail
   go_loopg [8] (T.length-i) (fun q v wr=> ∃j,i<=j/\j<=T.length/\T.length-j<=q/\fG (Old w2) g w2 wr/\mO wr (Old w2) g s T A0 c0 0 j cut/\Bn wr (Old w2) h 2 (ks++bS s T 0 i j))
   case atStart=>exact⟨i,aBT _,hi,aBT _,hA,R,by rw[sW,aCO];exact B⟩
   case round=>
    clear hA R B;obtain⟨j,hij,hjt,hq,hA,R,hb⟩:=hrel;obtain⟨g0,g1,g2,_,_⟩:=R.cells;have hrow:=R.row
    by_cases hlt:j<T.length
    ·have Jv:=hlt;have j0:=iZ j;have j1:=jJ j T.length;obtain⟨br,o,rfl,hbr,hbl,q0,q1,q2⟩:=hrow.tk Jv;have HL:=aB (sV s T 0 i j hij Jv);have hll:=vK s T 0 i j;obtain⟨h1,h2,h3⟩:=X.good.at_ Jv;have EG:aC (Tr.gY s 0 T[j]=.leaf T[j].1 (Tr.jI s T[j]) (T[j].2.1-0)):=rfl;have uU:=aB (yG s T[j]);generalize T[j]=t at *;obtain⟨tk,ta,tl⟩:=t;dsimp only at h1 h2 h3 q0 q1 q2 EG uU;have hpl:(ks++bS s T 0 i j).length<=60000000:=(by rw[List.length_append];omega);have HL2:aC (ks++bS s T 0 i (j+1)=(ks++bS s T 0 i j)++[.leaf tk (Tr.jI s (tk,ta,tl)) (ta-0)]):=(by show _=_;rw[HL.o,EG.o,aCL]);clear HL EG hll hrow;obtain⟨dB,A,c,vs,hb⟩:=hb;generalize ks++bS s T 0 i j=ps at *;obtain⟨bx,hbx⟩:=dC wr.heap.size;have hb0:=fun m=>below_drewN (aBU wr.heap.size wr) m
     have hA0:=fun m=>hA.trans (Kept.cZ (Kept.below (hb0 m) R.dL) g)
     have R0:=fun m=>R.below (hb0 m)
     have Kc:=fun m=>hb.below (hb0 m)
     have hs:=X.hs;obtain⟨K,hKK⟩:=dC (Old w2);rw[<-hKK] at hA0 R0 Kc;obtain⟨b,hb00⟩:=dC (0);rw[<-hb00] at HL2;clear hA R hb;go_wp2_with fail
     go_quiet (fail)
     have hA:=hA0 nq;have R:=R0 nq;have hb:=Kc nq;rw[show wr.heap.size=(wr.drewN nq).heap.size from rfl] at hbx hbl;have g1:(wr.drewN nq).cell? ⟨g,1,none⟩=_:=g1;have g2:(wr.drewN nq).cell? ⟨g,2,none⟩=_:=g2;have q0:(wr.drewN nq).cell? ⟨br,o+j*3,none⟩=_:=q0;have q1:(wr.drewN nq).cell? ⟨br,o+j*3+1,none⟩=_:=q1;have q2:(wr.drewN nq).cell? ⟨br,o+j*3+2,none⟩=_:=q2;clear hA0 R0 Kc hb0 g0;generalize wr.drewN nq=w2 at *;go_wp2_with fail;refine aL 11 (fun w':World=>w'.cell? ⟨g,1,none⟩=some (.slice (some ⟨br,o,none⟩) T.length c0)/\w'.cell? ⟨g,2,none⟩=some (vZZ j)/\w'.cell? ⟨br,o+j*3,none⟩=some (vZZ tk)/\w'.cell? ⟨br,o+j*3+1,none⟩=some (vZZ ta)/\w'.cell? ⟨br,o+j*3+2,none⟩=some (vZZ tl)) ?_;have hgl:=R.lt;have hS0:(fun w':World=>w'.cell? ⟨g,1,none⟩=some (.slice (some ⟨br,o,none⟩) T.length c0)/\w'.cell? ⟨g,2,none⟩=some (vZZ j)/\w'.cell? ⟨br,o+j*3,none⟩=some (vZZ tk)/\w'.cell? ⟨br,o+j*3+1,none⟩=some (vZZ ta)/\w'.cell? ⟨br,o+j*3+2,none⟩=some (vZZ tl)) w2.drew:=⟨g1,g2,q0,q1,q2⟩
     iterate 10 refine aO 0 hS0 ?_
     clear hS0;refine aA 10 fun C hC=> ?_
     go_simp;refine hC.out _ _ (fun _=>⟨(aJ _ _ _ _ hgl).trans g1,(aJ _ _ _ _ hgl).trans g2,(aJ _ _ _ _ hbl).trans q0,(aJ _ _ _ _ hbl).trans q1,(aJ _ _ _ _ hbl).trans q2⟩) ?_;clear hC C;refine aA 11 fun C hC=> ?_
     go_simp;refine hC.out _ _ (fun h=>absurd rfl h) ?_;clear hC C;refine aR ?_;have hd:Below w2.heap.size w2 ((w2.alloc (.cells #[vZZ tk,vZZ ta,vZZ tl] 149)).drew):=((aBU _ _).alloc (aBT _) _).drew;have hA:=hA.trans (Kept.cZ (Kept.below hd R.dL) g);have R:=R.below hd;have hb:=hb.below hd;have hBx:aV ((w2.alloc (.cells #[vZZ tk,vZZ ta,vZZ tl] 149)).drew) bx 149 #[vZZ tk,vZZ ta,vZZ tl]:=(by rw[hbx];exact(aV.new _ _ _).drew);rw[<-hbx];clear hbx hd g1 g2 q0 q1 q2 hbl hbr hgl;generalize(w2.alloc _).drew=w2 at *;go_wp2_with fail;refine aL 22 (fun w':World=>w'.cell? ⟨h,3,none⟩=some (.slice A ps.length c)/\w'.cell? ⟨bx,0,none⟩=some (vZZ tk)/\w'.cell? ⟨bx,1,none⟩=some (vZZ ta)/\w'.cell? ⟨bx,2,none⟩=some (vZZ tl)) ?_;have hd:Below w2.heap.size w2 w2.drew:=(aBU _ _).drew;have hA:=hA.trans (Kept.cZ (Kept.below hd R.dL) g);have R:=R.below hd;have hb:=hb.below hd;have hBx:=hBx.drew;clear hd;generalize w2.drew=w3 at *;have o1:=hb.blk.cell 3;have b0:=hBx.cell 0;have b1:=hBx.cell 1;have b2:=hBx.cell 2;simp[iG] at o1 b0 b1 b2;have hS0:(fun w':World=>w'.cell? ⟨h,3,none⟩=some (.slice A ps.length c)/\w'.cell? ⟨bx,0,none⟩=some (vZZ tk)/\w'.cell? ⟨bx,1,none⟩=some (vZZ ta)/\w'.cell? ⟨bx,2,none⟩=some (vZZ tl)) w3:=⟨o1,b0,b1,b2⟩;have a0:aCQ.wrap ((ta:Int)+tl)=(ta:Int)+tl:=aCV _ (by omega);have a1:(0:Int)<=(ta:Int)+tl:=(by omega);have a2:((ta:Int)+tl).toNat=ta+tl:=(by omega);have a3:(ta:Int)+tl<=(s.length:Int):=(by omega);have a4:(ta:Int)<=(ta:Int)+tl:=(by omega);have a5:ta<=ta+tl:=(by omega);have a6:ta+tl<=s.length:=h1
     iterate 17 refine aO 0 hS0 ?_
     clear hS0;have hd:=nR w3 (.cells #[kZZ 0,vZZ tk,.string ((⟨s.toArray⟩:ByteArray).extract ta (ta+tl)),nZZ,kZZ 0,kZZ 0,kZZ 0,kZZ 0,.bool false] 93);have hBg:aV (w3.alloc (.cells #[kZZ 0,vZZ tk,.string ((⟨s.toArray⟩:ByteArray).extract ta (ta+tl)),nZZ,kZZ 0,kZZ 0,kZZ 0,kZZ 0,.bool false] 93)) w3.heap.size 93 #[kZZ 0,vZZ tk,.string ((⟨s.toArray⟩:ByteArray).extract ta (ta+tl)),nZZ,kZZ 0,kZZ 0,kZZ 0,kZZ 0,.bool false]:=aV.new _ _ _;have hA:=hA.trans (Kept.cZ (Kept.below hd R.dL) g);have hp:wQ (w3.alloc (.cells #[kZZ 0,vZZ tk,.string ((⟨s.toArray⟩:ByteArray).extract ta (ta+tl)),nZZ,kZZ 0,kZZ 0,kZZ 0,kZZ 0,.bool false] 93)) (fun x=> ¬K x/\x≠h/\some x≠(Value.slice A ps.length c).ownBlock) (.leaf tk (Tr.jI s (tk,ta,tl)) (ta-b)) [w3.heap.size] (.pointer (some ⟨w3.heap.size,0,none⟩)):=
      ⟨w3.heap.size,rfl,rfl,⟨fun hk=>aDR _ (R.dL _ hk),fun e=>by have:=hb.blk.lt;omega,fun e=>by have:=hb.kF _ e.symm;omega⟩,by unfold iG;rw[<-show Value.string ((⟨s.toArray⟩:ByteArray).extract ta (ta+tl))=.string ⟨(Tr.jI s (tk,ta,tl)).toArray⟩from uU.o];exact hBg⟩
     have hdj: ∀x∈[w3.heap.size],x∉dB:=fun x hx hf=>(by simp only[aCH] at hx;subst hx;exact aDR _ (gV.fp _ _ _ hb.parts _ hf).2);have pJ:=hBx.lt;have hgl:=R.lt;refine aA 17 fun C hC=> ?_
     go_simp;have c0':=(aJ w3 (.cells #[kZZ 0,vZZ tk,.string ((⟨s.toArray⟩:ByteArray).extract ta (ta+tl)),nZZ,kZZ 0,kZZ 0,kZZ 0,kZZ 0,.bool false] 93) bx 0 pJ).trans b0;have c1:=(aJ w3 (.cells #[kZZ 0,vZZ tk,.string ((⟨s.toArray⟩:ByteArray).extract ta (ta+tl)),nZZ,kZZ 0,kZZ 0,kZZ 0,kZZ 0,.bool false] 93) bx 1 pJ).trans b1;have c2:=(aJ w3 (.cells #[kZZ 0,vZZ tk,.string ((⟨s.toArray⟩:ByteArray).extract ta (ta+tl)),nZZ,kZZ 0,kZZ 0,kZZ 0,kZZ 0,.bool false] 93) bx 2 pJ).trans b2;have hBx:=hBx.alloc (.cells #[kZZ 0,vZZ tk,.string ((⟨s.toArray⟩:ByteArray).extract ta (ta+tl)),nZZ,kZZ 0,kZZ 0,kZZ 0,kZZ 0,.bool false] 93);have R:=R.below hd;have hb:=hb.below hd;have o1:(w3.alloc (.cells #[kZZ 0,vZZ tk,.string ((⟨s.toArray⟩:ByteArray).extract ta (ta+tl)),nZZ,kZZ 0,kZZ 0,kZZ 0,kZZ 0,.bool false] 93)).cell? ⟨h,3,none⟩=some (.slice A ps.length c):=(by have:=hb.blk.cell 3;simpa [iG] using this);refine hC.out _ _ (fun _=>⟨o1,c0',c1,c2⟩) ?_;clear hC C hd hBg b0 b1 b2;obtain⟨q,hq⟩:=dC w3.heap.size;rw[<-hq] at hp hdj⊢;clear hq;generalize(w3.alloc _)=w6 at *;refine aA 18 fun C hC=> ?_
     go_simp;refine hC.out _ _ (fun _=>⟨(aJ _ _ _ _ hb.blk.lt).trans o1,(aJ _ _ _ _ hBx.lt).trans c0',(aJ _ _ _ _ hBx.lt).trans c1,(aJ _ _ _ _ hBx.lt).trans c2⟩) ?_;clear hC C;refine aA 19 fun C hC=> ?_
     refine step_append_lies _ (by rfl) _ _ _ (by rfl) 0 89 i0 _ 1 8 underlying40 ji iW jz1 iV rfl (by omega) (.slice A ps.length c) ps.length vs (by rfl) (hb.own.alloc (.cells #[pZZ q] 89)) ⟨w6.heap.size,0,none⟩ 1 1 [pZZ q] (by rfl) (by rfl) (aCK (heap_alloc_new w6 _)) (by simp[aCA]) (by omega) (by unfold maxLen;omega) (by omega) (aBZ _) (w6.heap.size+1) (by simp) ?_;intro gg cap' w5 hown5 hgrow hat lD;have kX:=hb.push R.dL hp (by simp) hdj hown5 hgrow hat;have hg5:=(hb.blk.alloc (.cells #[pZZ q] 89)).grown hgrow hb.jP;have b1:=hg5.cell 3;have bf:=hg5.frozen 3;simp[iG] at b1;have hx5:=(hBx.alloc (.cells #[pZZ q] 89)).grown hgrow (own_ne hb.own hBx (by decide));have e0:=hx5.cell 0;have e1:=hx5.cell 1;have e2:=hx5.cell 2;simp at e0 e1 e2;refine hC.out _ _ (fun _=>⟨b1,e0,e1,e2⟩) ?_;clear hC C;refine aA 20 fun C hC=> ?_
     go_simp;refine hC.out _ _ (fun _=>⟨b1,e0,e1,e2⟩) ?_;clear hC C;refine aA 21 fun C hC=> ?_
     go_simp;refine hC.out _ _ (fun _=>⟨b1,e0,e1,e2⟩) ?_;clear hC C;refine aA 22 fun C hC=> ?_
     go_simp;refine hC.out _ _ (fun h=>absurd rfl h) ?_;clear hC C;refine aR ?_;have hB:=kX.1;have R:=R.kept kX.2;have hA:=hA.trans (kX.2.cZ g);clear hb hp hdj o1 hown5 hgrow hat lD kX hg5 b1 bf c0' c1 c2 pJ hgl hBx hx5 e0 e1 e2 a0 a1 a2 a3 a4 a5 a6 uU;generalize(aCI _ _ (.slice (some ⟨gg,0,none⟩) (ps.length+1) cap'))=w7 at *;obtain⟨_,_,g2,_,_⟩:=R.cells;have gf:=R.rd.frozen 2;go_wp2_with fail
     go_roundg (T.length-(j+1))
     case rel=>
      have hR:=R.at_ (j:=j+1) (by omega);have Er:=hB.cZ ((fG.refl (Old w7) g w7).set 2 (kZZ ((j+1:Nat):Int))) R.kg
      try unfold vZZ at Er
      rw[<-HL2.o,show((j+1:Nat):Int)=(j:Int)+1 by omega] at Er;have hA2:=hA.set 2 (kZZ ((j:Int)+1))
      try unfold vZZ at hR
      rw[show((j+1:Nat):Int)=(j:Int)+1 by omega] at hR;rw[hKK] at hA2 hR Er;rw[hb00] at Er;exact⟨j+1,by omega,by omega,aBT _,hA2,hR,Er⟩
     case measure=>omega
    ·obtain rfl:j=T.length:=(by omega);have j1:=lC T.length;have j3:=kZ T.length;have hb0:=fun m=>below_drewN (aBU wr.heap.size wr) m
     rw[<-HF.o] at hb;clear HF hlt hq hrow;go_wp2_with fail
     go_quiet (fail)
     have hA:=hA.trans (Kept.cZ (Kept.below (hb0 nq) R.dL) g);have hb:=hb.below (hb0 nq);have R:=R.below (hb0 nq);clear hb0 g0 g1 g2;generalize wr.drewN nq=w9 at *;obtain⟨fp,hp,hn⟩:=hb.whole 0;have hpt:=hput w9 _ fp _ 0 hp hn (by have:=HW.o;omega);have uy:=wQ.fp _ _ _ hp;go_wp2_with fail;refine hpt.mono ?_;clear hpt;rintro e1 EA ⟨rfl,hTu,hNp⟩;go_wp2_with fail;go_ret;have hw2:=vQ.size;have hcm:=(hA.calm.trans hTu.calm);refine⟨h,fp,rfl,EE.weak (fun x hx=> ?_) _ _ _ _ hNp,hn,hcm.os.trans vQ.os,hcm.tape.trans vQ.tape,hcm.output.trans vQ.output,?_,fun x hx=> ?_⟩
     ·have hx: ¬x<w2.heap.size:=hx;omega
     ·rw[hTu.size];have:=hA.size;omega
     ·have hx2:x<w2.heap.size:=(by omega);have hg:=HG.o;rw[hTu.sI x (fun hm=>(uy x hm).1 hx2),hA.sI x hx2 (by omega),vQ.block x hx]
section
variable{w w':World}{F F':Nat->Prop}
mutual
theorem EE.keep (hs:w.heap.size<=w'.heap.size)(hk: ∀b,F b->b<w.heap.size->w'.heap[b]? =w.heap[b]? /\F' b): ∀(p:Tr.PT) (a:Nat) (fp:List Nat) (v:Value),EE w F p a fp v->EE w' F' p a fp v
 | .leaf k t _,a,fp,v,h=>by obtain⟨g,e,ef,hF,hB⟩:=h;have:=hk g hF hB.lt;exact⟨g,e,ef,this.2,this.1.trans hB⟩
 | .gap t _ d,a,fp,v,h=>by obtain⟨g,e,ef,hF,hB⟩:=h;have:=hk g hF hB.lt;exact⟨g,e,ef,this.2,this.1.trans hB⟩
 | .branch k _ l,a,fp,v,h=>by obtain⟨g,dB,e,ef,hF,A,c,vs,hB,hc,hr,hp⟩:=h;have:=hk g hF hB.lt;exact⟨g,dB,e,ef,this.2,A,c,vs,this.1.trans hB,hc,hr.keep hs hk,jZ.keep hs hk l a dB vs hp⟩
theorem jZ.keep (hs:w.heap.size<=w'.heap.size)(hk: ∀b,F b->b<w.heap.size->w'.heap[b]? =w.heap[b]? /\F' b): ∀(l:List Tr.PT) (a:Nat) (dB:List Nat) (vs:List Value),jZ w F l a dB vs->jZ w' F' l a dB vs
 | [],a,dB,vs,h=>h
 |p::l,a,dB,vs,h=>by obtain⟨fp,kP,v,vs',ef,e,hp,hl⟩:=h;exact⟨fp,kP,v,vs',ef,e,EE.keep hs hk p a fp v hp,jZ.keep hs hk l _ kP vs' hl⟩
end
end
section
variable{P:Program}{ops:Array Oper}{Q:Exit->Act->World->Prop}{md:Region.Mode}
def unl(listed:Array Bool):Nat:=listed.toList.countP fun b=> !b
theorem Cs{listed:Array Bool}{i:Nat}(h:listed.getD i true=false):unl (listed.setIfInBounds i true)+1=unl listed:=by
 have hi:i<listed.size:=by
  rcases Nat.lt_or_ge i listed.size with h'|h'
  ·exact h'
  ·simp[aDS,Array.getElem?_eq_none h'] at h
 obtain⟨l⟩:=listed;simp only[aDS,List.getElem?_toArray,List.size_toArray] at h hi;unfold unl;simp only[List.setIfInBounds_toArray]
 induction l generalizing i with
 |nil=>simp at hi
 |cons b l ih=>
  cases i with
  |zero=>have hb:b=false:=(by simpa using h);subst hb;simp
  |succ i=>have:=ih (i:=i) (by simpa using h) (by simpa using hi);simp only[List.set_cons_succ,List.countP_cons];omega
theorem Vt(J:Array Bool->Act->World->Prop)(hs: ∀listed a w,J listed a w->∀i∈aCX md ops listed,wpOp P ops Q i (fun a' w'=>J (listed.setIfInBounds i true) a' w') a w)
  (he: ∀listed a w,J listed a w->aCX md ops listed=[]->Q .normal a w): ∀(fuel:Nat) (listed:Array Bool) (a:Act) (w:World),J listed a w->unl listed<=fuel->wpAny P md ops Q fuel listed a w
 |0,listed,a,w,hJ,hu=>by
  have hr:aCX md ops listed=[]:=by
   cases h:aCX md ops listed with
   |nil=>rfl
   |cons i r=>have hi:i∈aCX md ops listed:=(by rw[h];exact aFD ..);have:=Cs (mem_ready.1 hi).1;omega
  exact⟨hr,he listed a w hJ hr⟩
 |fuel+1,listed,a,w,hJ,hu=>⟨fun hr=>he listed a w hJ hr,fun i hi=>wpOp_mono (fun a' w' h=>Vt J hs he fuel _ a' w' h (by have:=Cs (mem_ready.1 hi).1;omega)) (hs listed a w hJ i hi)⟩
def backward(ops:Array Oper):Bool:=(List.range ops.size).all fun j=>((ops[j]?).map fun o=>o.after.all fun e=>decide (e.on<j)).getD true
theorem OC{listed:Array Bool}(hb:backward ops=true)(hr:aCX md ops listed=[])(hsz:listed.size=ops.size): ∀j,j<ops.size->listed.getD j false=true:=by
 intro j
 induction j using Nat.strongRecOn with
 |_ j ih=>
  intro hj;cases hl:listed.getD j false with
  |true=>rfl
  |false=>have hl':listed.getD j true=false:=(by rw[aDS,aGF (by omega)] at hl⊢;exact hl);have hm:j∈aCX md ops listed:=(by refine mem_ready.2 ⟨hl',ops[j],aGF hj,fun e he _=> ?_⟩;have h1:=List.all_eq_true.1 hb j (List.mem_range.2 hj);rw[aGF hj] at h1;simp only[Option.map_some,Option.getD_some,Array.all_eq_true_iff_forall_mem,decide_eq_true_eq] at h1;have h2:=h1 e he;exact ih e.on h2 (by omega));rw[hr] at hm;cases hm
end
end Go.Proofs.YtcjjfeephaddcaaGreatDoor
