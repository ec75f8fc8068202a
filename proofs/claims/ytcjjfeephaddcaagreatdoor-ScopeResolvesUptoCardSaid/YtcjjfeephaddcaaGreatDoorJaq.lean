import Derived.Test.YtcjjfeephaddcaaGreatDoorJap
set_option linter.all false
open Go.Proofs.Tryz renaming prog->aBS
open Go.Region renaming ready->aCX,wanted->aEA,binds->aFH
open Go.RowKit.Below renaming refl->aBU
open List renaming length_append->aBW,getElem?_eq_getElem->aBY,getElem?_eq_some_iff->aCD,length_map->aCE,mem_singleton->aCH,mem_cons->aCJ,append_assoc->aCL,append_nil->aCO,take_succ_eq_append_getElem->aCP,mem_of_getElem?->aDC,mem_map->aDQ,take_of_length_le->aDY,take_zero->aEP,length_zipIdx->aFR,flatten_cons->aFW,mem_of_mem_drop->aFY,getElem_zipIdx->aGO,flatten_nil->aGW
open Nat renaming le_refl->aBT
set_option maxHeartbeats 64000000
set_option maxRecDepth 100000
open Go.Proofs.Tryz
namespace Go.Proofs.YtcjjfeephaddcaaGreatDoor
open Go.RowKit Go.Maps
variable{f fuel i k n:Nat}{oi:Oper}{listed:Array Bool}{a:Act}{w:World}{x:Sc.It}{v:Value}{p:Tr.PT}{l:List Sc.It}
section
variable{P:Program}{ops:Array Oper}{Q:Exit->Act->World->Prop}{md:Region.Mode}{S:World->Prop}{L:Nat}
theorem L9{i j:Nat}{oi oj:Oper}{fuel:Nat}{listed:Array Bool}{a:Act}{w:World}
  (hi: ∀K':Act->World->Prop,Shut (∀a w,(i≠L->S w)->iQ P md ops Q S L fuel (listed.setIfInBounds i true) a w->K' a w)->if aEA oi (yielded ops a.tmps)=true then Oper.wp P oi a w K' Q else K' (a.put oi.dst undef) w)
  (hj: ∀K':Act->World->Prop,Shut (∀a w,(j≠L->S w)->iQ P md ops Q S L fuel (listed.setIfInBounds j true) a w->K' a w)->if aEA oj (yielded ops a.tmps)=true then Oper.wp P oj a w K' Q else K' (a.put oj.dst undef) w)
  (hr:aCX md ops listed=[i,j]) (hoi:ops[i]? =some oi) (hoj:ops[j]? =some oj):iQ P md ops Q S L (fuel+1) listed a w:=
 ⟨fun h0=>(by rw[h0] at hr;cases hr),fun l hl=>by
  rw[hr,aCJ,aCH] at hl;rcases hl with rfl|rfl
  ·exact wpOp_step hoi fun K' hK=>hi K' fun a w hS hW=>hK a w ⟨hS,hW⟩
  ·exact wpOp_step hoj fun K' hK=>hj K' fun a w hS hW=>hK a w ⟨hS,hW⟩⟩
end
theorem sS{F:Nat->Prop}{x:Option Sc.Wd}(h:wI w F x v)(a b:Operand)(w':World):
  (eqGuard BinOp.neq 231 a b v (oZZ)).run aBS w'=.ok () w'/\(binOp BinOp.neq 231 v (oZZ)).run aBS w'=.ok (.bool x.isSome) w':=by
 cases x with
 |none=>obtain rfl:v=oZZ:=h;exact⟨by rfl,by kernel_rfl⟩
 |some y=>obtain⟨g,rfl,_⟩:=h;exact⟨by rfl,by kernel_rfl⟩
def Bl(ib mb f a:Nat)(j:Nat)(w':World):Prop:=w'.cell? ⟨ib,0,none⟩=some (vZZ f)/\w'.cell? ⟨ib,j,none⟩=some (bO mb)/\w'.cell? ⟨mb,1,none⟩=some (vZZ a)
section
variable{w0 w:World}{F:Nat->Prop}{pg mb:Nat}{A:Option Addr}{c:Nat}{fs:List Fl}{Ad:Option Addr}{cd:Nat}{W:Sc.Wk}{GG:List (List Nat)}{ts is:Value}{us:List Sc.Us}
theorem zw(h:Ph w0 F pg mb A c fs Ad cd W GG)(hP:IQ w0 w pg mb (.slice A fs.length c) ts is (.slice Ad W.items.length cd) us){ib:Nat}(hx:xW W GG f k x ib)
  (di: ∀y:Sc.Wd,(x.mo=some y\/x.me=some y\/x.al=some y)->y.at_<=1000000000) (hl:us.length+1000000<=1000000000):
  Calls aBS 123 #[pZZ pg,bO ib] w (Xp w0 w pg mb (.slice A fs.length c) ts is (.slice Ad W.items.length cd) (us++Sc.EM W f k x)):=by
 obtain⟨lZ,_,_,hfl⟩:=(h.at_ hP).DK hx;have tY:aC (x.file<=1000000000):=by have:=(h.at_ hP).few;have:=(h.at_ hP).fl;show _<=_;omega
 have HE:aC (us++Sc.EM W f k x=us++x.mo.toList.map (Sc.wN W x)++x.me.toList.map (fun m=>⟨x.file,m.at_,4,(Sc.bP W f k x).1,(Sc.bP W f k x).2.1,if(Sc.bP W f k x).2.2=0/\x.has=false/\Sc.dW (Sc.aT W f) k=true then 5 else(Sc.bP W f k x).2.2⟩)++
   x.al.toList.map (fun m=>⟨x.file,m.at_,5,(Sc.bP W f k x).1,(Sc.bP W f k x).2.1,if Sc.dW (Sc.aT W f) k then 5 else 0⟩)):=by
  show _=_;unfold Sc.EM;simp only[aCL]
 generalize us++Sc.EM W f k x=ue at *;have hit:=(h.at_ hP).YX hx;obtain⟨hFi,_,qb,nv,Ap,cp,ev,mv,me,av,hB,_,_,_,_,_,_,hmo,hme,hal⟩:=hit;have hF1: ∀w':World,IQ w0 w' pg mb (.slice A fs.length c) ts is (.slice Ad W.items.length cd) us->True:=fun _ _=>trivial
 have Hl:=aB hl;have i10:=hB.cell 10;simp[kW] at i10;have hne:=fun w'=>(sS hmo (.tmp 13) (.const (oZZ)) w').1
 have hne2:=fun w'=>(sS hmo (.tmp 13) (.const (oZZ)) w').2
 clear hl lZ hfl hF1;unfold bO at *
 go_enter func123,ntmps123
 go_upto_if 14 with fail;clear hne hne2 i10;have Htw:aC (∀w':World,IQ w0 w' pg mb (.slice A fs.length c) ts is (.slice Ad W.items.length cd) us->True):=fun _ _=>trivial
 clear Htw;have HB:=aB hB;have HP:=aB hP;have aAN:=aB di;clear hB hP di
 go_cut [5] (fun _ wc=>IQ w0 wc pg mb (.slice A fs.length c) ts is (.slice Ad W.items.length cd) (us++x.mo.toList.map (Sc.wN W x))/\aD [86,31] w wc)
 case first=>
  cases hxm:x.mo with
  |none=>have Bt:=aB hxm;clear hxm;go_wp2_with fail;go_meet;exact⟨by rw[Bt.o];simpa using HP.o,aD.refl _ _⟩
  |some m=>
   rw[hxm] at hmo;obtain⟨nb,rfl,hFn,Y0⟩:=hmo;have WS:=aB (aAN.o m (.inl hxm));have Bt:=aB hxm;clear hxm hme hal;have HU:aC (iT (Sc.jR x.file m.at_ 3 4)=#[kZZ (x.file:Int),kZZ (m.at_:Int),kZZ (3:Int),kZZ (-1),kZZ (-1),kZZ (4:Int)]):=rfl;go_upto_region 1 with fail
   go_cut [4] (fun s4 wc=> ∃r,s4=pZZ r/\aV wc r 31 #[kZZ (x.file:Int),kZZ (m.at_:Int),kZZ (3:Int),kZZ (-1),kZZ (-1),kZZ (4:Int)]/\w.heap.size<=r/\Below w.heap.size w wc)
   case first=>
    have hd0:Below w.heap.size w w.drew:=(aBU _ _).drew;have hB2:=HB.o.drew;have xG:=Y0.drew;refine aL 13 (Bl ib nb x.file m.at_ 10) ?_;have hsz:w.heap.size=w.drew.heap.size:=rfl;have uT:=aB hsz;clear hsz;generalize w.drew=w2 at *;have hS0:Bl ib nb x.file m.at_ 10 w2:=⟨by have:=hB2.cell 0;simpa [kW] using this,by have:=hB2.cell 10;simpa [kW] using this,by have:=xG.cell 1;simpa using this⟩;unfold Bl bO at *
    iterate 11 refine aO 0 hS0 ?_
    clear hS0;refine L9 (i:=11) (j:=12) (fun C hC=> ?_) (fun C hC=> ?_) (by kernel_rfl) (by rfl) (by rfl)
    ·have hno:=AJ x.file m.at_ 3 4 w2;unfold Wj at hno;rw[HU.o] at hno;go_simp;refine hno.mono ?_;clear hno;rintro e3 w3 ⟨rfl,hd3⟩;have hB3:=hB2.below hd3 hB2.lt;have xE:=xG.below hd3 xG.lt;refine hC.out _ _ (fun _=>⟨by have:=hB3.cell 0;simpa [kW] using this,by have:=hB3.cell 10;simpa [kW] using this,by have:=xE.cell 1;simpa using this⟩) ?_;clear hC C;have lW:=hd0.trans (hd3.mono (by rw[<-uT.o];exact aBT _));obtain⟨hd4,hn⟩:=uS w3 31 qA;have hB4:=hB3.below hd4 hB3.lt;have IZ:=xE.below hd4 xE.lt;have lV:=lW.trans (hd4.mono lW.size);have ou:aC (Bl ib nb x.file m.at_ 10 (w3.alloc (.cells qA 31))):=⟨by have:=hB4.cell 0;simpa [kW] using this,by have:=hB4.cell 10;simpa [kW] using this,by have:=IZ.cell 1;simpa using this⟩;have Hr:aC (w.heap.size<=w3.heap.size):=lW.size;unfold Bl bO at ou;unfold qA at *;clear hd3 hd4 lW hB3 xE hB2 xG hd0;refine aA 12 fun C hC=> ?_
     go_simp;refine hC.out _ _ (fun _=>ou.o) ?_;clear hC C;obtain⟨r,hr0⟩:=dC w3.heap.size;rw[<-hr0] at hn Hr⊢;clear hr0;generalize w3.alloc _=w4 at *;obtain⟨⟨k0,k1,k2,k3,k4,k5⟩,y0,y1,y2,y3,y4,y5⟩:=aX hn;have hb:=yI hn (kZZ (x.file:Int)) (kZZ (m.at_:Int)) (kZZ (3:Int)) (kZZ (-1)) (kZZ (-1)) (kZZ (4:Int));have hb2:=rD lV Hr.o (kZZ (x.file:Int)) (kZZ (m.at_:Int)) (kZZ (3:Int)) (kZZ (-1)) (kZZ (-1)) (kZZ (4:Int));refine aA 13 fun C hC=> ?_
     go_simp;refine hC.out _ _ (fun h=>absurd rfl h) ?_;clear hC C;refine aR ?_;clear k0 k1 k2 k3 k4 k5 y0 y1 y2 y3 y4 y5 hn lV;go_wp2_with fail;go_meet;exact⟨r,rfl,hb,Hr.o,hb2⟩
    ·obtain⟨hd3,hn⟩:=uS w2 31 qA;have hB3:=hB2.below hd3 hB2.lt;have xE:=xG.below hd3 xG.lt;have lW:=hd0.trans (hd3.mono hd0.size);have HS3:aC (Bl ib nb x.file m.at_ 10 (w2.alloc (.cells qA 31))):=⟨by have:=hB3.cell 0;simpa [kW] using this,by have:=hB3.cell 10;simpa [kW] using this,by have:=xE.cell 1;simpa using this⟩;have Hr:aC (w.heap.size<=w2.heap.size):=hd0.size;unfold Bl bO at HS3;unfold qA at *;clear hd3 hB2 xG hd0;go_simp;refine hC.out _ _ (fun _=>HS3.o) ?_;clear hC C;obtain⟨r,hr0⟩:=dC w2.heap.size;rw[<-hr0] at hn Hr⊢;clear hr0;generalize w2.alloc _=w3 at *;have hno:=AJ x.file m.at_ 3 4 w3;unfold Wj at hno;rw[HU.o] at hno;refine aA 11 fun C hC=> ?_
     go_simp;refine hno.mono ?_;clear hno;rintro e3 w4 ⟨rfl,hd4⟩;have hB4:=hB3.below hd4 hB3.lt;have IZ:=xE.below hd4 xE.lt;have hn:=hn.below hd4 hn.lt;have lV:=lW.trans (hd4.mono lW.size);refine hC.out _ _ (fun _=>⟨by have:=hB4.cell 0;simpa [kW] using this,by have:=hB4.cell 10;simpa [kW] using this,by have:=IZ.cell 1;simpa using this⟩) ?_;clear hC C hd4 lW hB3 xE;obtain⟨⟨k0,k1,k2,k3,k4,k5⟩,y0,y1,y2,y3,y4,y5⟩:=aX hn;have hb:=yI hn (kZZ (x.file:Int)) (kZZ (m.at_:Int)) (kZZ (3:Int)) (kZZ (-1)) (kZZ (-1)) (kZZ (4:Int));have hb2:=rD lV Hr.o (kZZ (x.file:Int)) (kZZ (m.at_:Int)) (kZZ (3:Int)) (kZZ (-1)) (kZZ (-1)) (kZZ (4:Int));refine aA 13 fun C hC=> ?_
     go_simp;refine hC.out _ _ (fun h=>absurd rfl h) ?_;clear hC C;refine aR ?_;clear k0 k1 k2 k3 k4 k5 y0 y1 y2 y3 y4 y5 hn lV;go_wp2_with fail;go_meet;exact⟨r,rfl,hb,Hr.o,hb2⟩
   case rest=>
    obtain⟨r,rfl,hr,hrs,hd⟩:=hcut;have hP1:=HP.o.below hd;have hW1:=h.at_ hP1;have hB1:=HB.o.below hd HB.o.lt;have hK1:aD [86,31] w wc:=aD.below hd;have hm1:wI wc F (some m) (pZZ nb):=⟨nb,rfl,hFn,Y0.below hd Y0.lt⟩;have hfi:=Cx (mo:=some m) (ib:=ib) hW1.files (by have:=hW1.few;omega) hW1.p0 (by have:=hB1.cell 10;simpa [kW] using this) hm1;rw[<-hW1.names,<-Bt.o,Sc.Uf] at hfi;have HM:aC (Sc.wN W x m=match Sc.nQ W x with
     |some g=>⟨x.file,m.at_,3,g, -1,0⟩
     |none=>Sc.jR x.file m.at_ 3 4):=rfl
    have HL:aC (us++x.mo.toList.map (Sc.wN W x)=us++[Sc.wN W x m]):=(by show _=_;rw[Bt.o];rfl);generalize us++x.mo.toList.map (Sc.wN W x)=u1 at *;have Hrs:=aB hrs;have Hd:=aB hd;have Hrp:aC (pg<r):=(by have:=HP.o.pl;have:=HP.o.size;show _<_;omega);clear hW1 hB1 hm1 Y0 hrs hd;cases hf:Sc.nQ W x with
    |none=>rw[hf] at hfi HM;have HM:aC (Sc.wN W x m=Sc.jR x.file m.at_ 3 4):=HM;have hfi:Calls aBS 173 #[pZZ pg,pZZ ib] wc (Ms (-1) wc):=hfi;clear hf;go_wp2_with fail;refine hfi.mono ?_;clear hfi;rintro e2 w2 ⟨rfl,hd2⟩;have hP2:=hP1.below hd2;have hr2:=hr.below hd2 hr.lt;have hK2:=hK1.trans (aD.below hd2);have had:=vD hP2 (u:=Sc.jR x.file m.at_ 3 4) tY.o WS.o (by have:=Hl.o;omega);rw[HU.o] at had;obtain⟨⟨k0,k1,k2,k3,k4,k5⟩,_⟩:=aX hr2;clear hP1 hP2 hr hd2 hK1;go_wp2_with fail;refine had.mono ?_;clear had;rintro e3 w3 ⟨rfl,hP3,hK3⟩;clear k0 k1 k2 k3 k4 k5;go_wp2_with fail;go_meet;exact⟨by rw[HL.o,HM.o];exact hP3,hK2.trans hK3⟩
    |some g=>rw[hf] at hfi HM;have HM:aC (Sc.wN W x m=⟨x.file,m.at_,3,g, -1,0⟩):=HM;have hfi:Calls aBS 173 #[pZZ pg,pZZ ib] wc (Ms (g:Int) wc):=hfi;have i0:=iZ g;clear hf;go_wp2_with fail;refine hfi.mono ?_;clear hfi;rintro e2 w2 ⟨rfl,hd2⟩;have hP2:=hP1.below hd2;have hr2:=hr.below hd2 hr.lt;have hK2:=hK1.trans (aD.below hd2);obtain⟨⟨k0,k1,k2,k3,k4,k5⟩,y0,y1,y2,y3,y4,y5⟩:=aX hr2;have hdw:=Hd.o.trans (hd2.mono Hd.o.size);clear hP1 hr hd2 hK1 hP2 hK2;go_upto_region 5 with fail;have hr3:=(hr2.bD 3 (vZZ g)).bD 5 (kZZ 0);simp at hr3;have hd3:=(hdw.setCell (p:=⟨r,3,none⟩) Hrs.o (vZZ g)).setCell (p:=⟨r,5,none⟩) Hrs.o (kZZ 0);clear k0 k1 k2 k3 k4 k5 y0 y1 y2 y3 y4 y5 hr2 hdw;generalize(w2.setCell _ _).setCell _ _=w3 at *;have hP3:=HP.o.below hd3;have hK3:aD [86,31] w w3:=aD.below hd3;have Xg:aC (iT ⟨x.file,m.at_,3,g, -1,0⟩=#[kZZ (x.file:Int),kZZ (m.at_:Int),kZZ (3:Int),vZZ g,kZZ (-1),kZZ (0:Int)]):=rfl;have had:=vD hP3 (u:=⟨x.file,m.at_,3,g, -1,0⟩) tY.o WS.o (by have:=Hl.o;omega);rw[Xg.o] at had;obtain⟨⟨k0,k1,k2,k3,k4,k5⟩,_⟩:=aX hr3;clear hP3 hr3 hd3;go_wp2_with fail;refine had.mono ?_;clear had;rintro e3 w4 ⟨rfl,uN,hK4⟩;clear k0 k1 k2 k3 k4 k5;go_wp2_with fail;go_meet;exact⟨by rw[HL.o,HM.o];exact uN,hK3.trans hK4⟩
 case rest=>
  clear hmo hme hal HB HP;obtain⟨hP,hK⟩:=hcut;generalize hu1:us++x.mo.toList.map (Sc.wN W x)=u1 at *;have Hl1:aC (u1.length+100<=1000000000):=(by have h1:=Hl.o;show _<=_;rw[<-hu1,aBW,aCE];cases x.mo<;>simp<;>omega);clear hu1 Hl;have G_:=QJ (h.at_ hP) h.many hx;obtain⟨tf,ta,te,hst⟩: ∃a b c,Sc.bP W f k x=(a,b,c):=⟨_,_,_,rfl⟩;rw[hst] at G_ HE;generalize E_:Sc.dW (Sc.aT W f) k=tw at *;have HE:aC (ue=u1++x.me.toList.map (fun m=>⟨x.file,m.at_,4,tf,ta,if te=0/\x.has=false/\tw=true then 5 else te⟩)++x.al.toList.map (fun m=>⟨x.file,m.at_,5,tf,ta,if tw then 5 else 0⟩)):=HE;have Htw:=aB E_;clear hst E_;unfold bO at G_;go_wp2_with fail;refine G_.mono ?_;clear G_;rintro e2 w2 ⟨rfl,hd2⟩;have hP2:=hP.below hd2;have hK2:=hK.trans (aD.below hd2);clear hP hK hd2;have hit:=(h.at_ hP2).YX hx;rw[Htw.o] at hit;obtain⟨hFi,_,qb,nv,Ap,cp,ev,mv,me,av,hB,_,_,_,_,_,_,_,hme,_⟩:=hit;have i11:=hB.cell 11;have i9:=hB.cell 9;have i4:=hB.cell 4;simp[kW] at i11 i9 i4;have hne:=fun w'=>(sS hme (.tmp 48) (.const (oZZ)) w').1
  have hne2:=fun w'=>(sS hme (.tmp 48) (.const (oZZ)) w').2
  have HB:=aB hB;have HP:=aB hP2;clear hB hP2;go_upto_if 49 with fail;clear hne hne2 i11
  go_cut [8] (fun _ wc=>IQ w0 wc pg mb (.slice A fs.length c) ts is (.slice Ad W.items.length cd) (u1++x.me.toList.map (fun m=>⟨x.file,m.at_,4,tf,ta,if te=0/\x.has=false/\tw=true then 5 else te⟩))/\aD [86,31] w wc)
  case first=>
   cases hxm:x.me with
   |none=>have Bt:=aB hxm;clear hxm;go_wp2_with fail;go_meet;exact⟨by rw[Bt.o];simpa using HP.o,hK2⟩
   |some m=>
    rw[hxm] at hme;obtain⟨nb,rfl,hFn,Y0⟩:=hme;have WS:=aB (aAN.o m (.inr (.inl hxm)));have HL:aC (u1++x.me.toList.map (fun m=>(⟨x.file,m.at_,4,tf,ta,if te=0/\x.has=false/\tw=true then 5 else te⟩:Sc.Us))=u1++[⟨x.file,m.at_,4,tf,ta,if te=0/\x.has=false/\tw=true then 5 else te⟩]):=by show _=_;rw[hxm];rfl
    clear hxm;generalize u1++x.me.toList.map (fun m=>(⟨x.file,m.at_,4,tf,ta,if te=0/\x.has=false/\tw=true then 5 else te⟩:Sc.Us))=u2 at *;generalize hhs:x.has=hs at *;have Hhs:=aB hhs;clear hhs;obtain⟨b8,hb8⟩: ∃b8:Bool,b8=decide (te=0/\hs=false/\tw=true):=⟨_,rfl⟩;have Hb8:=aB hb8;clear hb8;go_upto_region 8 with fail
    go_cut [64] (fun s wc=>s=.bool b8/\wc=w2)
    case first=>
     by_cases he:te=0
     ·have e0:((te:Int)==0)=true:=(by simp[he]);have He:=aB he;clear he;cases hs
      ·cases tw
       ·go_wp2_with fail;go_meet;exact⟨by rw[Hb8.o];simp,rfl⟩
       ·go_wp2_with fail;go_meet;exact⟨by rw[Hb8.o];simp[He.o],rfl⟩
      ·go_wp2_with fail;go_meet;exact⟨by rw[Hb8.o];simp,rfl⟩
     ·have e0:((te:Int)==0)=false:=(by simp;omega);have He:=aB he;clear he;go_wp2_with fail;go_meet;exact⟨by rw[Hb8.o];simp[He.o],rfl⟩
    case rest=>
     obtain⟨rfl,rfl⟩:=hcut;clear i9 i4;obtain⟨er,her⟩: ∃er:Nat,er=if te=0/\hs=false/\tw=true then 5 else te:=⟨_,rfl⟩
     have Her:=aB her;clear her;go_upto_if 64 with fail
     go_cut [8] (fun s wc'=>s=vZZ er/\wc'=wc)
     case first=>
      cases b8
      ·go_wp2_with fail;go_meet;refine⟨?_,rfl⟩;have h1:=Hb8.o;rw[Her.o,if_neg (of_decide_eq_false h1.symm)]
      ·go_wp2_with fail;go_meet;refine⟨?_,rfl⟩;have h1:=Hb8.o;rw[Her.o,if_pos (of_decide_eq_true h1.symm)];rfl
     case rest=>
      obtain⟨rfl,rfl⟩:=hcut;have HL:aC (u2=u1++[⟨x.file,m.at_,4,tf,ta,er⟩]):=(by show _=_;rw[HL.o,Her.o]);go_upto_region 10 with fail;refine aL 100 (Bl ib nb x.file m.at_ 11) ?_;have hd3:Below wc.heap.size wc wc.drew:=(aBU _ _).drew;have hP3:=HP.o.below hd3;have hK3:=hK2.drew;have hB3:=HB.o.drew;have xE:=Y0.drew;clear hd3 hK2 Y0;generalize wc.drew=w3 at *;have hS0:Bl ib nb x.file m.at_ 11 w3:=⟨by have:=hB3.cell 0;simpa [kW] using this,by have:=hB3.cell 11;simpa [kW] using this,by have:=xE.cell 1;simpa using this⟩;unfold Bl bO at *
      iterate 16 refine aO 0 hS0 ?_
      clear hS0;have HU:aC (iT ⟨x.file,m.at_,4,tf,ta,er⟩=#[kZZ (x.file:Int),kZZ (m.at_:Int),kZZ (4:Int),kZZ tf,kZZ ta,vZZ er]):=rfl;have had:=vD hP3 (u:=⟨x.file,m.at_,4,tf,ta,er⟩) tY.o WS.o (by have:=Hl1.o;omega);rw[HU.o] at had;refine aA 16 fun C hC=> ?_
      go_simp;refine had.mono ?_;clear had;rintro e4 w4 ⟨rfl,uN,hK4⟩;have hB4:=hB3.aG hK4 (by decide);have IZ:=xE.aG hK4 (by decide);refine hC.out _ _ (fun _=>⟨by have:=hB4.cell 0;simpa [kW] using this,by have:=hB4.cell 11;simpa [kW] using this,by have:=IZ.cell 1;simpa using this⟩) ?_;clear hC C hP3 hB3 xE hB4 IZ;refine aR ?_;go_wp2_with fail;go_meet;exact⟨by rw[HL.o];exact uN,hK3.trans hK4⟩
  case rest=>
   clear hme HB HP hK2 i9 i4;obtain⟨hP,hK⟩:=hcut;generalize hu2:u1++x.me.toList.map (fun m=>(⟨x.file,m.at_,4,tf,ta,if te=0/\x.has=false/\tw=true then 5 else te⟩:Sc.Us))=u2 at *;have Hl2:aC (u2.length+10<=1000000000):=(by have h1:=Hl1.o;show _<=_;rw[<-hu2,aBW,aCE];cases x.me<;>simp<;>omega);clear hu2 Hl1;have hit:=(h.at_ hP).YX hx;rw[Htw.o] at hit;obtain⟨hFi,_,qb,nv,Ap,cp,ev,mv,me,av,hB,_,_,_,_,_,_,_,_,hal⟩:=hit;have i12:=hB.cell 12;have i4:=hB.cell 4;simp[kW] at i12 i4;have hne:=fun w'=>(sS hal (.tmp 85) (.const (oZZ)) w').1
   have hne2:=fun w'=>(sS hal (.tmp 85) (.const (oZZ)) w').2
   have HB:=aB hB;have HP:=aB hP;clear hB hP;go_upto_if 86 with fail;clear hne hne2;cases hxm:x.al with
   |none=>have Bt:=aB hxm;clear hxm;go_wp2_with fail;go_end0;refine⟨rfl,?_,hK⟩;rw[HE.o,Bt.o];simpa using HP.o
   |some m=>
    rw[hxm] at hal;obtain⟨nb,rfl,hFn,Y0⟩:=hal;have WS:=aB (aAN.o m (.inr (.inr hxm)));have HL:aC (ue=u2++[⟨x.file,m.at_,5,tf,ta,if tw then 5 else 0⟩]):=by show _=_;rw[HE.o,hxm];rfl
    clear hxm HE;generalize wc=wz at *;go_upto_region 12 with fail
    go_cut [9] (fun s9 wx=> ∃r,s9=pZZ r/\aV wx r 31 #[kZZ (x.file:Int),kZZ (m.at_:Int),kZZ (5:Int),kZZ tf,kZZ ta,kZZ (0:Int)]/\wz.heap.size<=r/\Below wz.heap.size wz wx)
    case first=>
     refine aL 15 (Bl ib nb x.file m.at_ 12) ?_;have hd0:Below wz.heap.size wz wz.drew:=(aBU _ _).drew;have hB2:=HB.o.drew;have xG:=Y0.drew;have hsz:wz.heap.size<=wz.drew.heap.size:=aBT _;generalize wz.drew=w3 at *;have hS0:Bl ib nb x.file m.at_ 12 w3:=⟨by have:=hB2.cell 0;simpa [kW] using this,by have:=hB2.cell 12;simpa [kW] using this,by have:=xG.cell 1;simpa using this⟩;unfold Bl bO at *;obtain⟨hd4,hn⟩:=uS w3 31 qA;have hB4:=hB2.below hd4 hB2.lt;have IZ:=xG.below hd4 xG.lt;have lV:=hd0.trans (hd4.mono hsz);have ou:aC (Bl ib nb x.file m.at_ 12 (w3.alloc (.cells qA 31))):=⟨by have:=hB4.cell 0;simpa [kW] using this,by have:=hB4.cell 12;simpa [kW] using this,by have:=IZ.cell 1;simpa using this⟩;have Hr:aC (wz.heap.size<=w3.heap.size):=hsz;unfold Bl bO at ou;unfold qA at *;clear i4 i12 hd0 hd4 hB2 xG hB4 IZ hsz
     iterate 14 refine aO 0 hS0 ?_
     clear hS0;refine aA 14 fun C hC=> ?_
     go_simp;refine hC.out _ _ (fun _=>ou.o) ?_;clear hC C;obtain⟨r,hr0⟩:=dC w3.heap.size;rw[<-hr0] at hn Hr⊢;clear hr0;generalize w3.alloc _=w4 at *;obtain⟨⟨k0,k1,k2,k3,k4,k5⟩,y0,y1,y2,y3,y4,y5⟩:=aX hn;have hb:=yI hn (kZZ (x.file:Int)) (kZZ (m.at_:Int)) (kZZ (5:Int)) (kZZ tf) (kZZ ta) (kZZ (0:Int));have hb2:=rD lV Hr.o (kZZ (x.file:Int)) (kZZ (m.at_:Int)) (kZZ (5:Int)) (kZZ tf) (kZZ ta) (kZZ (0:Int));refine aA 15 fun C hC=> ?_
     go_simp;refine hC.out _ _ (fun h=>absurd rfl h) ?_;clear hC C;refine aR ?_;clear k0 k1 k2 k3 k4 k5 y0 y1 y2 y3 y4 y5 hn lV;go_wp2_with fail;go_meet;exact⟨r,rfl,hb,Hr.o,hb2⟩
    case rest=>
     clear i4 i12;obtain⟨r,rfl,hr,hrs,hd⟩:=hcut;have rE:=HB.o.below hd HB.o.lt;have i4:=rE.cell 4;simp[kW] at i4;have Hrs:=aB hrs;have Hd:=aB hd;clear rE hrs hd Y0;cases tw with
     |false=>have hP3:=HP.o.below Hd.o;have hK3:=hK.trans (aD.below Hd.o);have Xg:aC (iT ⟨x.file,m.at_,5,tf,ta,0⟩=#[kZZ (x.file:Int),kZZ (m.at_:Int),kZZ (5:Int),kZZ tf,kZZ ta,kZZ (0:Int)]):=rfl;have had:=vD hP3 (u:=⟨x.file,m.at_,5,tf,ta,0⟩) tY.o WS.o (by have:=Hl2.o;omega);rw[Xg.o] at had;obtain⟨⟨k0,k1,k2,k3,k4,k5⟩,_⟩:=aX hr;clear hP3 hr hK;go_wp2_with fail;refine had.mono ?_;clear had;rintro e3 w4 ⟨rfl,uN,hK4⟩;clear k0 k1 k2 k3 k4 k5 i4;go_wp2_with fail;go_end0;exact⟨rfl,by rw[HL.o];exact uN,hK3.trans hK4⟩
     |true=>obtain⟨⟨k0,k1,k2,k3,k4,k5⟩,y0,y1,y2,y3,y4,y5⟩:=aX hr;go_upto_region 15 with fail;have hr3:=hr.bD 5 (kZZ 5);simp at hr3;have hd3:=Hd.o.setCell (p:=⟨r,5,none⟩) Hrs.o (kZZ 5);clear k0 k1 k2 k3 k4 k5 y0 y1 y2 y3 y4 y5 hr i4;generalize wc.setCell _ _=w3 at *;have hP3:=HP.o.below hd3;have hK3:=hK.trans (aD.below hd3);have Xg:aC (iT ⟨x.file,m.at_,5,tf,ta,5⟩=#[kZZ (x.file:Int),kZZ (m.at_:Int),kZZ (5:Int),kZZ tf,kZZ ta,kZZ (5:Int)]):=rfl;have had:=vD hP3 (u:=⟨x.file,m.at_,5,tf,ta,5⟩) tY.o WS.o (by have:=Hl2.o;omega);rw[Xg.o] at had;obtain⟨⟨k0,k1,k2,k3,k4,k5⟩,_⟩:=aX hr3;clear hP3 hr3 hd3 hK;go_wp2_with fail;refine had.mono ?_;clear had;rintro e3 w4 ⟨rfl,uN,hK4⟩;clear k0 k1 k2 k3 k4 k5;go_wp2_with fail;go_end0;exact⟨rfl,by rw[HL.o];exact uN,hK3.trans hK4⟩
end
open Go.RowKit
def Sc.qB (fs:List Fl)(KK:List (List Tr.Kd)):Sc.Wk:=⟨fs.map (·.1),KK.zipIdx.map fun y=>Sc.bM y.2 y.1⟩
structure aAJ(ks:List Tr.Kd):Prop where
 len:ks.length<=1000000
 kids: ∀k∈ks,Sc.gU k=true->Sc.ItX k.part/\fH k.base k.part/\Tr.eP k.part<=1000000
theorem Og{b:Nat}{y:Sc.Wd}(h:fH b p)(e:Sc.eD b p=some y):y.at_<=1000000000/\y.text.length<=1000000:=by
 cases p with
 |leaf k t a=>unfold Sc.eD at e;injection e with e;subst e;unfold fH at h;exact h
 |gap t a d=>cases e
 |branch k a l=>cases e
theorem aAu{b:Nat}{l:List Tr.PT}(h: ∀p∈l,fH b p)(i:Nat):fH b (Sc.mP l i):=by
 unfold Sc.mP;cases e:l[i]? with
 |none=>unfold Sc.Qu;simp[fH]
 |some p=>exact h p (aDC e)
theorem LY{k:Tr.Kd}(h:fH k.base k.part): ∀y:Sc.Wd,((Sc.dZ n k).name=some y\/(Sc.dZ n k).mo=some y\/(Sc.dZ n k).me=some y\/(Sc.dZ n k).al=some y)->y.at_<=1000000000/\y.text.length<=1000000:=by
 have hk: ∀p∈Sc.bN k.part,fH k.base p:=by
  intro p hp;have h1:p∈Sc.aI (Sc.eZ k.part):=by
   unfold Sc.bN at hp;split at hp
   ·exact aFY hp
   ·exact hp
  have h2:=gN h1;cases hpt:k.part with
  |leaf a t b=>rw[hpt] at h2;cases h2
  |gap a t b=>rw[hpt] at h2;cases h2
  |branch a t b=>rw[hpt] at h h2;unfold fH at h;exact gG h.2 p h2
 have hw: ∀(i:Nat) (y:Sc.Wd),Sc.eD k.base (Sc.mP (Sc.bN k.part) i)=some y->y.at_<=1000000000/\y.text.length<=1000000:=fun i y e=>Og (aAu hk i) e
 intro y hy;unfold Sc.dZ at hy;dsimp only at hy;rcases hy with hy|hy|hy|hy
 ·split at hy
  ·exact hw _ _ hy
  ·split at hy
   ·exact hw _ _ hy
   ·exact hw _ _ hy
 ·split at hy
  ·cases hy
  ·exact hw _ _ hy
 ·split at hy
  ·cases hy
  ·exact hw _ _ hy
 ·split at hy
  ·exact hw _ _ hy
  ·cases hy
theorem G7{q:Tr.PT}(h:q∈Sc.bN p):q∈Sc.eZ p:=by
 have h1:q∈Sc.aI (Sc.eZ p):=by
  unfold Sc.bN at h;split at h
  ·exact aFY h
  ·exact h
 exact gN h1
theorem Va{k:Tr.Kd}(h:fH k.base k.part): ∀p∈Sc.bN k.part,fH k.base p:=fun p hp=>by
 have h2:=G7 hp;cases hpt:k.part with
 |leaf a t b=>rw[hpt] at h2;cases h2
 |gap a t b=>rw[hpt] at h2;cases h2
 |branch a t b=>rw[hpt] at h h2;unfold fH at h;exact gG h.2 p h2
theorem G8(h:Tr.eP p<=n): ∀q∈Sc.bN p,Tr.eP q<=n:=fun q hq=>by
 have h2:=G7 hq;cases p with
 |leaf a t b=>cases h2
 |gap a t b=>cases h2
 |branch a t b=>have h3:=Tr.oF (l:=b) h2;simp only[Tr.eP] at h;omega
theorem LZ{k:Tr.Kd}(hx:Sc.ItX k.part)(hl:fH k.base k.part)(hc:Tr.eP k.part<=1000000)(h4:Sc.kindOf k.part=4):Xo (Sc.dZ n k):=by
 have hbl:=Va hl;have hbc:=G8 hc;rcases hx.ways with ⟨h3,_⟩|⟨_,hD⟩
 ·rw[h3] at h4;cases h4
 obtain⟨part,b,fi,la⟩:=k;dsimp only at *;cases part with
 |leaf _ _ _=>cases h4
 |gap _ _ _=>cases h4
 |branch kd at_ l0=>
 obtain rfl:kd=4:=h4;obtain⟨x0,x1,r,hB,_,hr⟩:=hD.ex;rcases hr with ⟨x3,e,x5,rfl,h1,hs,he⟩|⟨p,x3,e,x5,rfl,h1,h2,hs,he⟩
 ·have hp:Sc.oO x3=false:=(by unfold Sc.oO;rw[h1];rfl);rw[eQ hB,hp];have hm:e∈Sc.bN (.branch 4 at_ l0):=(by rw[hB];simp);exact⟨rfl,hs,he,hbl e hm,hbc e hm,Nat.zero_le _,fun y hy=>by cases hy⟩
 ·have hp:Sc.oO p=true:=(by unfold Sc.oO;rw[h1,h2];rfl);rw[eQ hB,hp];have hm:e∈Sc.bN (.branch 4 at_ l0):=(by rw[hB];simp);have hm2:p∈Sc.bN (.branch 4 at_ l0):=(by rw[hB];simp);have hpc:=hbc p hm2;have hpl:=hbl p hm2;refine⟨rfl,hs,he,hbl e hm,hbc e hm,?_,fun y hy=> ?_⟩
  ·have h5:=Sc.EJ b p;have h6:=Sc.uL p;show(Sc.bE b p).length<=_;omega
  ·have hy:some y∈Sc.bE b p:=hy;cases p with
   |leaf _ _ _=>cases h1
   |gap _ _ _=>cases h1
   |branch k2 a2 m=>
    unfold fH at hpl;unfold Sc.bE at hy;obtain⟨z,hz,ez⟩:=aDQ.1 hy;cases z with
    |none=>cases ez
    |some z=>injection ez with ez;subst ez;exact uK hpl.2 z hz
theorem CS{ks:List Tr.Kd}(h:(Sc.bM f ks)[k]? =some x): ∃kd∈ks,Sc.gU kd=true/\x=Sc.dZ f kd:=by
 have h1:=aDC h;unfold Sc.bM at h1;obtain⟨kd,h2,h3⟩:=aDQ.1 h1;obtain⟨h4,h5⟩:=List.mem_filter.1 h2;exact⟨kd,h4,h5,h3.symm⟩
theorem XA{fs:List Fl}{KK:List (List Tr.Kd)}(h:(Sc.qB fs KK).items[f]? =some l): ∃ks,KK[f]? =some ks/\l=Sc.bM f ks:=by
 unfold Sc.qB at h;dsimp only at h;rw[List.getElem?_map,List.getElem?_zipIdx] at h;cases e:KK[f]? with
 |none=>rw[e] at h;cases h
 |some ks=>rw[e] at h;simp at h;exact⟨ks,rfl,h.symm⟩
theorem ES{α:Type}: ∀(l:List (List α)) (n:Nat),(l.take n).flatten.length<=l.flatten.length
 | [],n=>by simp
 |x::l,0=>by simp
 |x::l,n+1=>by rw[List.take_succ_cons,aFW,aFW,aBW,aBW];exact Nat.add_le_add_left (ES l n) _
section
variable(W:Sc.Wk)
def Sc.dV (f k:Nat):List Sc.Us:=((W.items.zipIdx.map fun y=>Sc.nA W y.2 y.1).take f).flatten++(((Sc.aT W f).zipIdx.map fun y=>Sc.fT W f y.2 y.1).take k).flatten
theorem Sc.GI (h:(Sc.aT W f)[k]? =some x):Sc.dV W f (k+1)=Sc.dV W f k++Sc.fT W f k x:=by
 have hk:k<((Sc.aT W f).zipIdx.map fun y=>Sc.fT W f y.2 y.1).length:=by rw[aCE,aFR];exact(aCD.1 h).1
 unfold Sc.dV;rw[aCP hk,List.flatten_append,List.flatten_singleton,aCL]
 congr 2
 rw[List.getElem_map,aGO];have:=(aCD.1 h).2;simp[this]
theorem Sc.wV (h:W.items[f]? =some l):Sc.dV W f l.length=Sc.dV W (f+1) 0:=by
 have hl:Sc.aT W f=l:=by unfold Sc.aT;rw[h];rfl
 have hf:f<(W.items.zipIdx.map fun y=>Sc.nA W y.2 y.1).length:=by rw[aCE,aFR];exact(aCD.1 h).1
 unfold Sc.dV;have h2:((l.zipIdx.map fun y=>Sc.fT W f y.2 y.1).take l.length)=(l.zipIdx.map fun y=>Sc.fT W f y.2 y.1):=aDY (by rw[aCE,aFR];exact aBT _);rw[hl,h2,aEP,aGW,aCO];rw[aCP hf,List.flatten_append,List.flatten_singleton]
 congr 1
 rw[List.getElem_map,aGO];have:=(aCD.1 h).2;simp only[Nat.zero_add,this];rfl
theorem Sc.JZ:Sc.dV W W.items.length 0=Sc.qC W:=by
 unfold Sc.dV Sc.qC;rw[aDY (by rw[aCE,aFR];exact aBT _),aEP,aGW,aCO]
theorem Sc.yA (hf:f<W.items.length)(k:Nat):(Sc.dV W f k).length<=(Sc.qC W).length:=by
 have h1:(Sc.dV W f k).length<=(Sc.dV W (f+1) 0).length:=by have h:=Sc.wV W (f:=f) (aBY hf);rw[<-h];have hl:Sc.aT W f=W.items[f]:=(by unfold Sc.aT;rw[aBY hf];rfl);unfold Sc.dV;rw[aBW,aBW,hl];have h2:(((W.items[f]).zipIdx.map fun y=>Sc.fT W f y.2 y.1).take W.items[f].length)=((W.items[f]).zipIdx.map fun y=>Sc.fT W f y.2 y.1):=aDY (by rw[aCE,aFR];exact aBT _);rw[h2];exact Nat.add_le_add_left (ES _ _) _
 refine Nat.le_trans h1 ?_;have h3:(Sc.dV W (f+1) 0)=((W.items.zipIdx.map fun y=>Sc.nA W y.2 y.1).take (f+1)).flatten:=by unfold Sc.dV;rw[aEP,aGW,aCO]
 rw[h3];exact ES _ _
end
section
variable{P:Program}{ops:Array Oper}{Q:Exit->Act->World->Prop}{md:Region.Mode}{C:Nat->World->Prop}
def oU(P:Program)(md:Region.Mode)(ops:Array Oper)(Q:Exit->Act->World->Prop)(C:Nat->World->Prop):Nat->Array Bool->Act->World->Prop
 |0,listed,a,w=>aCX md ops listed=[]/\Q .normal a w
 |fuel+1,listed,a,w=>
  (aCX md ops listed=[]->Q .normal a w)/\
  ∀i∈aCX md ops listed,wpOp P ops Q i (fun a' w'=>C i w'/\oU P md ops Q C fuel (listed.setIfInBounds i true) a' w') a w
theorem JQ: ∀(fuel:Nat) (listed:Array Bool) (a:Act) (w:World),oU P md ops Q C fuel listed a w->wpAny P md ops Q fuel listed a w
 |0,_,_,_,h=>h
 |fuel+1,_,_,_,h=>⟨h.1,fun i hi=>wpOp_mono (fun a' w' h'=>JQ fuel _ a' w' h'.2) (h.2 i hi)⟩
def M6(md:Region.Mode)(ops:Array Oper)(L i:Nat):Bool:=
 match ops[L]? with
 |some o=>o.after.toList.any fun e=>aFH md e&&e.on==i
 |none=>true
theorem TF{S:World->Prop}(L:List Nat){v:Value}(hi:ops[i]? =some oi)(hsel: ∀(j:Nat) (o:Oper) cs b,ops[j]? =some o->o.op≠ .select cs b)
  (hQ: ∀c a w,Q (.panic c) (a.put oi.dst v) w->Q (.panic c) a w) (hL:L.all (fun l=>M6 md ops l i)=true) (hCi: ∀w',S w'->C i w'):
  ∀(fuel:Nat) (listed:Array Bool) (a:Act) (w:World),
   (∀j oj,ops[j]? =some oj->j≠i->listed.getD j true=false->(∀e∈oj.after,aFH md e=true->e.on≠i)->oi.apart ops oj=true)->
   (∀j w',listed.getD j true=false->j≠i->j∉L->C j w'->S w')->i∈aCX md ops listed->YieldsIf P ops S oi v a->S w->
   oU P md ops Q C fuel (listed.setIfInBounds i true) (a.put oi.dst v) w->oU P md ops Q C (fuel+1) listed a w:=by
 intro fuel
 induction fuel with
 |zero=>
  intro listed a w _ _ hr hy hS H;refine⟨fun h=>(by rw[h] at hr;cases hr),fun j hj=> ?_⟩
  by_cases hji:j=i
  ·subst hji;exact hy.wpOp hi hS ⟨hCi _ hS,H⟩
  ·have:=ready_mono hj hji;rw[H.1] at this;cases this
 |succ fuel ih=>
  intro listed a w hfree hC hr hy hS H;refine⟨fun h=>(by rw[h] at hr;cases hr),fun j hj=> ?_⟩
  by_cases hji:j=i
  ·subst hji;exact hy.wpOp hi hS ⟨hCi _ hS,H⟩
  ·have h1:=H.2 j (ready_mono hj hji);obtain⟨hjun,oj,hoj,hall⟩:=mem_ready.1 hj;have hnot: ∀e∈oj.after,aFH md e=true->e.on≠i:=fun e he hb heq=>by
    have h1:=hall e he hb;have h0:=(mem_ready.1 hr).1;rw[heq] at h1;rcases Nat.lt_or_ge i listed.size with h'|h'
    ·simp[h'] at h0 h1;rw[h0] at h1;cases h1
    ·simp[Array.getElem?_eq_none h'] at h1
   have hjL:j∉L:=fun hjm=>(by have hL:=List.all_eq_true.1 hL j hjm;unfold M6 at hL;rw[hoj] at hL;simp only[List.any_eq_true,Bool.and_eq_true,beq_iff_eq] at hL;obtain⟨e,he,hb,hon⟩:=hL;exact hnot e (Array.mem_toList_iff.1 he) hb hon);have h2:=wpOp_putIf hoj (hfree j oj hoj hji hjun hnot) (fun cs b=>hsel i oi cs b hi) (fun cs b=>hsel j oj cs b hoj) hQ hy h1;have hfree': ∀k ok,ops[k]? =some ok->k≠i->(listed.setIfInBounds j true).getD k true=false->
     (∀e∈ok.after,aFH md e=true->e.on≠i)->oi.apart ops ok=true:=fun k ok hk hki hun hno=>by
    refine hfree k ok hk hki ?_ hno
    by_cases hjk:j=k
    ·subst hjk;exact hjun
    ·rw[getD_set_ne true hjk] at hun;exact hun
   have hC': ∀k w',(listed.setIfInBounds j true).getD k true=false->k≠i->k∉L->C k w'->S w':=fun k w' hun hki hkL hCk=>by
    refine hC k w' ?_ hki hkL hCk
    by_cases hjk:j=k
    ·subst hjk;exact hjun
    ·rw[getD_set_ne true hjk] at hun;exact hun
   refine wpOp_mono (fun a' w' h3=>⟨h3.2.1,ih (listed.setIfInBounds j true) a' w' hfree' hC' (ready_mono hr (Ne.symm hji)) h3.1 (hC j w' hjun hji hjL h3.2.1) ?_⟩) h2;rw[Array.setIfInBounds_comm _ _ hji];exact h3.2.2
theorem fI(S:World->Prop)(L:List Nat){v:Value}{fuel:Nat}{listed:Array Bool}{a:Act}{w:World}(hi:ops[i]? =some oi)
  (hs:Region.noSelect ops=true) (hf:Region.free md ops listed i=true) (hr:(aCX md ops listed).contains i=true) (hL:L.all (fun l=>M6 md ops l i)=true)
  (hQ: ∀c a w,Q (.panic c) (a.put oi.dst v) w->Q (.panic c) a w) (hC: ∀j w',listed.getD j true=false->j≠i->j∉L->C j w'->S w') (hCi: ∀w',S w'->C i w') (hy:YieldsIf P ops S oi v a) (hS:S w)
  (h:oU P md ops Q C fuel (listed.setIfInBounds i true) (a.put oi.dst v) w):oU P md ops Q C (fuel+1) listed a w:=
 TF L hi (Region.noSelect_spec hs) hQ hL hCi fuel listed a w (Region.free_spec hi hf) hC (by simpa using hr) hy hS h
theorem bL{o:Oper}{fuel:Nat}{a:Act}{w:World}(hr:aCX md ops listed=[i])(ho:ops[i]? =some o)
  (h: ∀K':Act->World->Prop,Shut (∀a w,C i w->oU P md ops Q C fuel (listed.setIfInBounds i true) a w->K' a w)->if aEA o (yielded ops a.tmps)=true then Oper.wp P o a w K' Q else K' (a.put o.dst undef) w):
  oU P md ops Q C (fuel+1) listed a w:=
 ⟨fun h0=>(by rw[h0] at hr;cases hr),fun j hj=>by rw[hr,aCH] at hj;subst hj;exact wpOp_step ho fun K' hK=>h K' fun a w hS hW=>hK a w ⟨hS,hW⟩⟩
theorem JR{j:Nat}{o o':Oper}{fuel:Nat}{a:Act}{w:World}(hr:aCX md ops listed=[i,j])(ho:ops[i]? =some o)(ho':ops[j]? =some o')
  (h: ∀K':Act->World->Prop,Shut (∀a w,C i w->oU P md ops Q C fuel (listed.setIfInBounds i true) a w->K' a w)->if aEA o (yielded ops a.tmps)=true then Oper.wp P o a w K' Q else K' (a.put o.dst undef) w)
  (h': ∀K':Act->World->Prop,Shut (∀a w,C j w->oU P md ops Q C fuel (listed.setIfInBounds j true) a w->K' a w)->if aEA o' (yielded ops a.tmps)=true then Oper.wp P o' a w K' Q else K' (a.put o'.dst undef) w):
  oU P md ops Q C (fuel+1) listed a w:=
 ⟨fun h0=>(by rw[h0] at hr;cases hr),fun m hm=>by
  rw[hr] at hm;simp only[aCJ,List.mem_nil_iff,or_false] at hm;rcases hm with rfl|rfl
  ·exact wpOp_step ho fun K' hK=>h K' fun a w hS hW=>hK a w ⟨hS,hW⟩
  ·exact wpOp_step ho' fun K' hK=>h' K' fun a w hS hW=>hK a w ⟨hS,hW⟩⟩
theorem wR(hr:aCX md ops listed=[])(h:Q .normal a w): ∀fuel,oU P md ops Q C fuel listed a w
 |0=>⟨hr,h⟩
 |_+1=>⟨fun _=>h,by rw[hr];simp⟩
theorem WW{id:Nat}{a:Act}{w:World}(C:Nat->World->Prop)(hm:P.follows .mixedOrders=true)
  (h:oU P .any ops Q C ops.size (Array.replicate ops.size false) a w.drew):(Code.region id ops true).wp P Q a w:=
 wp_region_any hm (JQ _ _ _ _ h)
end
end Go.Proofs.YtcjjfeephaddcaaGreatDoor
