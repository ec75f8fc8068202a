import Derived.Test.YtcjjfeephaddcaaGreatDoorJaa
import Derived.Test.YtcjjfeephaddcaaGreatDoorRows
import Derived.WalkKit
import Derived.WalkSpells
import Derived.WalkLawsBesides
import Derived.Below
import Derived.Laws.OwnMore
import Derived.Deep.AppendLies
import Derived.Deep.Draws
import Derived.Lib.Hide
import Derived.Deep.QuietTactic
import Derived.BigQuiet
import Derived.IntWalk
import Derived.Deep.RegionHeld3
import Derived.Deep.DeepCutAuto
import Derived.Lib.IndexMore
import Derived.IntWalk
set_option linter.all false
open Bool renaming and_eq_true->aCS
open Go.RowKit.Below renaming heap_alloc->aEQ
open Go.Utf8 renaming runeError->aEZ
open Go.Value renaming ownBlock->aCZ
open List renaming getElem?_eq_getElem->aBY,length_drop->aCB,append_assoc->aCL,append_nil->aCO,take_succ_eq_append_getElem->aCP,cons_append->aCT,nil_append->aCU,map_append->aDI,mem_map->aDQ,eq_nil_of_length_eq_zero->aDV,getElem?_drop->aEY,length_pos_iff->aFO,filter_append->aFT,takeWhile_append_dropWhile->aGH,filter_cons_of_pos->aGI
open Nat renaming le_refl->aBT,le_trans->aBV,lt_or_ge->aCN
open Option renaming some->aDB
namespace Go.Proofs.YtcjjfeephaddcaaGreatDoor.Tr
variable{i:Nat}
structure tZ(s:List UInt8)(T:List (Nat×Nat×Nat))(b i:Nat)(st:St):Prop where
 up:i<=st.2
 le:st.2<=T.length
 text:eG st.1=sl s T i st.2
 ok:AR b st.1 (dD s T i)
 base:b<=dD s T i
def ED(s:List UInt8)(T:List (Nat×Nat×Nat))(b:Nat)(f:Nat->St):Prop:= ∀i,i<=T.length->b<=dD s T i->tZ s T b i (f i)
def Nr(s:List UInt8)(T:List (Nat×Nat×Nat))(b:Nat)(f:Nat->PT×Nat):Prop:=ED s T b fun i=>aS (f i)
section
variable{s:List UInt8}{T:List (Nat×Nat×Nat)}{b:Nat}
theorem Oi(hS:Side s T){st:St}(h:tZ s T b i st):dD s T i+jC st.1=dD s T st.2:=by
 have h1:=uW st.1;rw[h.text,TM hS.good h.up] at h1;have:=hS.good.up i st.2 h.up;omega
theorem tZ.thn (hS:Side s T){st:St}{f:Nat->St}(h:tZ s T b i st)(hf:ED s T b f):tZ s T b i (thn st f):=by
 have h1:=hf st.2 h.le (aBV h.base (hS.good.up i st.2 h.up));refine⟨aBV h.up h1.up,h1.le,?_,?_,h.base⟩
 ·unfold Tr.thn;dsimp only;rw[EN,h.text,h1.text];exact EU hS.good h.up h1.up
 ·unfold Tr.thn;exact Dl _ _ _ h.ok (by rw[Oi hS h];exact h1.ok)
theorem tZ.ite {st u:St}{p:Bool}(h:tZ s T b i st)(hu:tZ s T b i u):tZ s T b i (if p then st else u):=by
 split
 ·exact h
 ·exact hu
theorem tZ.nil (hi:i<=T.length)(hb:b<=dD s T i):tZ s T b i ([],i):=⟨aBT _,hi,by rw[qW];rfl,trivial,hb⟩
theorem tZ.br {kind:Nat}{st:St}(h:tZ s T b i st)(hk:kind≠5):tZ s T b i (aS (nC s T b kind i st)):=by
 refine⟨h.up,h.le,?_,⟨⟨?_,h.ok,fun e=>absurd e hk⟩,trivial⟩,h.base⟩
 ·simp only[aS,nC,eG,textOf,aCO,h.text]
 ·have:=h.base;unfold bC;omega
theorem tZ.around {j kind:Nat}{p:PT}{l:List PT}(h:tZ s T b i (p::l,j))(hk:kind≠5):tZ s T b i ([.branch kind p.from_ (p::l)],j):=by
 refine⟨h.up,h.le,?_,⟨⟨Zx h.ok.1,h.ok,fun e=>absurd e hk⟩,trivial⟩,h.base⟩;have:=h.text;simp only[eG,textOf,aCO] at this⊢;exact this
variable(b)(hS:Side s T)
include hS
theorem RI: ∀(n i:Nat),i+n<=T.length->b<=dD s T i->AR b (((T.drop i).take n).map (gY s b)) (dD s T i)
 |0,i,_,_=>by rw[List.take_zero];trivial
 |n+1,i,h,hb=>by
  have hi:i<T.length:=(by omega);have h1:=hS.good.up i (i+1) (Nat.le_succ i);have ih:=RI n (i+1) (by omega) (aBV hb h1);rw[List.drop_eq_getElem_cons hi,List.take_succ_cons,List.map_cons];have h2:=VU s T i hi;refine⟨?_,?_⟩
  ·show b+(T[i].2.1-b)=dD s T i;omega
  ·have h3:(jI s T[i]).length=dD s T (i+1)-dD s T i:=(by rw[Ps hS hi,TM hS.good (Nat.le_succ i)]);have h4:=sQ (gY s b T[i]) (dD s T i);have h5:jF (gY s b T[i])=(jI s T[i]).length:=rfl;rw[h4,h5,h3,show dD s T i+(dD s T (i+1)-dD s T i)=dD s T (i+1) by omega];exact ih
theorem kL:ED s T b (aK s T b):=fun i hi hb=>by
 have h1:=KG T i hi;have h2:=vY T i;have h:=(sZ b hS (toP T i-i) i (by omega)).1;rw[show i+(toP T i-i)=toP T i by omega] at h;exact⟨h1,h2,h,RI b hS (toP T i-i) i (by omega) hb,hb⟩
omit hS in
theorem CO(w:List UInt8):ED s T b (nU s T b w):=fun i hi hb=>by
 refine⟨aBT _,hi,by unfold nU;rw[qW];rfl,⟨?_,trivial⟩,hb⟩;show b+bC s T b i=_;unfold bC;omega
theorem iJ(w:List UInt8):ED s T b (aN s T b w):=fun i hi hb=>by
 unfold aN;exact(kL b hS i hi hb).ite (CO b w i hi hb)
theorem rR:ED s T b (aQ s T b):=fun i hi hb=>by
 unfold aQ;split
 ·exact kL b hS i hi hb
 ·exact CO b lY i hi hb
theorem LG{one:Nat->St}(ho:ED s T b one): ∀(f:Nat) (st:St),tZ s T b i st->tZ s T b i (dK s T b one f st)
 |0,st,h=>h
 |f+1,st,h=>by
  rw[jS];split
  ·exact LG ho f _ ((h.thn hS (kL b hS)).thn hS ho)
  ·exact h
theorem KV:Nr s T b (bB s T b):=fun i hi hb=>by
 have h1:=iJ b hS [40] i hi hb;have h2:=LG b hS (rR b hS) (T.length+1) _ (h1.thn hS (rR b hS));exact((h1.ite (p:=aW s T [[41]] (aN s T b [40] i).2) h2).thn hS (iJ b hS [41])).br (by omega)
theorem YO{e:Nat->St}(he:ED s T b e)(kind:Nat)(hk:kind≠5)(shut:List UInt8):Nr s T b (eH s T b e kind shut):=fun i hi hb=>by
 have h1:=kL b hS i hi hb;have h2:=LG b hS he (T.length+1) _ (h1.thn hS he);exact((h1.ite (p:=aW s T [shut] (aK s T b i).2) h2).thn hS (iJ b hS shut)).br hk
omit hS in
theorem Rf(k:Nat)(t:List UInt8):eT k t≠5:=by
 unfold eT
 repeat' split
 all_goals omega
theorem Qn{e:Nat->St}(he:ED s T b e):Nr s T b (fD s T b e):=fun i hi hb=>by
 show tZ s T b i (aS (fD s T b e i));unfold fD;split
 ·exact(kL b hS i hi hb).br (Rf _ _)
 split
 ·exact(((kL b hS i hi hb).thn hS he).thn hS (iJ b hS [41])).br (by omega)
 split
 ·exact YO b hS he 13 (by omega) [93] i hi hb
 ·exact CO b jN i hi hb
theorem SK{e:Nat->St}(he:ED s T b e): ∀(f:Nat) (r:PT×Nat),tZ s T b i (aS r)->tZ s T b i (aS (gJ s T b e f r))
 |0,r,h=>h
 |f+1,r,h=>by
  rw[jE];split
  ·refine SK he f _ ?_;have h2:=h.thn hS (YO b hS he 12 (by omega) [41]);exact tZ.around (kind:=11) h2 (by omega)
  ·exact h
theorem Ux{e:Nat->St}(he:ED s T b e):Nr s T b (oG s T b e):=fun i hi hb=>SK b hS he _ _ (Qn b hS he i hi hb)
theorem Fg{one:Nat->PT×Nat}(ho:Nr s T b one){r:PT×Nat}(h:tZ s T b i (aS r)):tZ s T b i (aS (iA s T b one r)):=by
 have h1:=(h.thn hS (kL b hS)).thn hS ho;exact tZ.around (kind:=10) h1 (by omega)
theorem XU{one:Nat->PT×Nat}(ho:Nr s T b one)(signs:List (List UInt8)): ∀(f:Nat) (r:PT×Nat),tZ s T b i (aS r)->tZ s T b i (aS (iX s T b one signs f r))
 |0,r,h=>h
 |f+1,r,h=>by
  rw[kU];split
  ·exact XU ho signs f _ (Fg b hS ho h)
  ·exact h
theorem De{one:Nat->PT×Nat}(ho:Nr s T b one)(signs:List (List UInt8)):Nr s T b (rowP s T b one signs):=fun i hi hb=>XU b hS ho signs _ _ (ho i hi hb)
theorem Ur{e:Nat->St}(he:ED s T b e):Nr s T b (jV s T b e):=fun i hi hb=>by
 have hs:Nr s T b (BV s T b e):=De b hS (De b hS (Ux b hS he) _) _;show tZ s T b i (aS (jV s T b e i));unfold jV;split
 ·exact Fg b hS hs (hs i hi hb)
 ·exact hs i hi hb
theorem D8: ∀f,Nr s T b (aU s T b f)
 |0=>fun i hi hb=>by have h:=CO (s:=s) (T:=T) b jN i hi hb;exact⟨h.up,h.le,h.text,h.ok,hb⟩
 |f+1=>fun i hi hb=>by
  have he:=D8 f;have ht:=kL b hS i hi hb;show tZ s T b i (aS (aU s T b (f+1) i));rw[aU];split
  ·exact(((((ht.thn hS (rR b hS)).thn hS (iJ b hS [61])).thn hS he).thn hS (iJ b hS O9)).thn hS he).br (by omega)
  split
  ·exact(((((ht.thn hS he).thn hS (iJ b hS uG)).thn hS he).thn hS (iJ b hS wD)).thn hS he).br (by omega)
  split
  ·exact(((ht.thn hS (KV b hS)).thn hS (iJ b hS [61,62])).thn hS he).br (by omega)
  ·exact Ur b hS he i hi hb
theorem Zp:ED s T b (dA s T b):=fun i hi hb=>by
 unfold dA;exact(kL b hS i hi hb).ite (tZ.nil hi hb)
theorem Yq{st:St}(h:tZ s T b i st):tZ s T b i (nT s T b st):=by
 unfold nT;have h4:=(((h.thn hS (iJ b hS fZ)).thn hS (rR b hS)).thn hS (iJ b hS [46])).thn hS (rR b hS);have h5:=(h4.thn hS (kL b hS)).thn hS (rR b hS);exact(h5.ite h4).thn hS (iJ b hS [59])
theorem ko{st:St}(h:tZ s T b i st):tZ s T b i (oC s T b st):=by
 unfold oC;have h4:=(h.thn hS (iJ b hS iP)).thn hS (rR b hS);have h5:=h4.thn hS (KV b hS);exact(((h5.ite h4).thn hS (iJ b hS [61])).thn hS (D8 b hS 65)).thn hS (iJ b hS [59])
theorem Rt:Nr s T b (gT s T b):=fun i hi hb=>by
 have h0:=Zp b hS i hi hb;show tZ s T b i (aS (gT s T b i));unfold gT;split
 ·exact(Yq b hS h0).br (by omega)
 ·exact(ko b hS h0).br (by omega)
def Xn(st:St):Prop:= ∃l k t x,st.1=l++[.leaf k t x]/\¬(k=1\/k=2)
omit hS in
theorem KZ(i:Nat)(hn:aH T i<T.length):dY T[aH T i]=false:=by
 unfold aH at hn⊢;have h1:(T.drop i).takeWhile dY++(T.drop i).dropWhile dY=T.drop i:=aGH;generalize hk:((T.drop i).takeWhile dY).length=k at *;have h2:(T.drop i)[k]? =some T[i+k]:=by rw[aEY,aBY hn]
 rw[<-h1,List.getElem?_append_right (by omega),hk,Nat.sub_self] at h2;cases hd:(T.drop i).dropWhile dY with
 |nil=>rw[hd] at h2;simp at h2
 |cons x l=>rw[hd] at h2;simp only[List.getElem?_cons_zero,aDB.injEq] at h2;have:=List.head_dropWhile_not dY (l:=T.drop i) (by rw[hd];simp);rw[<-h2];simpa [hd] using this
omit hS in
theorem XJ(i:Nat)(hn:aH T i<T.length):Xn (aK s T b i):=by
 have h0:=CL T i;have hb:=KZ (T:=T) i hn;have e:toP T i-i=(aH T i-i)+1:=by unfold toP;omega
 have hl:aH T i-i<(T.drop i).length:=by rw[aCB];omega
 have hg:(T.drop i)[aH T i-i]=T[aH T i]:=by
  rw[List.getElem_drop]
  congr 1
  omega
 unfold Xn aK;dsimp only;rw[e,aCP hl,aDI,hg];refine⟨_,_,_,_,rfl,?_⟩;unfold dY at hb;simpa using hb
omit hS in
theorem aj{st:St}(h:tZ s T b i st)(he:Xn st):tZ s T b i (aS (nC s T b 5 i st)):=by
 refine⟨h.up,h.le,?_,⟨⟨?_,h.ok,fun _=> ?_⟩,trivial⟩,h.base⟩
 ·simp only[aS,nC,eG,textOf,aCO,h.text]
 ·have:=h.base;unfold bC;omega
 ·obtain⟨l,k,t,x,e,hk⟩:=he;have e1:gF (.branch 5 (bC s T b i) st.1) (dD s T i)=fA st.1 ⟨dD s T i, -1, -1,false⟩:=rfl;rw[e1,e,YB];have h1:=CF l ⟨dD s T i, -1, -1,false⟩;have h2:=UC l ⟨dD s T i, -1, -1,false⟩ ((fA l ⟨dD s T i, -1, -1,false⟩).end_:Int) (by rw[h1];exact Int.le_refl _) (by unfold Pl.In;dsimp only;omega);generalize fA l ⟨dD s T i, -1, -1,false⟩=q at *;obtain⟨_,_,_,h3⟩:=h2;have e2:gF (.leaf k t x) q.end_=⟨q.end_+t.length,(q.end_:Int),((q.end_+t.length:Nat):Int),false⟩:=(by unfold gF;rw[if_neg hk]);rw[e2];unfold CR;dsimp only;constructor
  ·split<;>omega
  ·split<;>omega
theorem RQ: ∀(f:Nat) (last:Bool) (st:St),tZ s T b i st->tZ s T b i (fM s T b f last st)/\(Xn st->Xn (fM s T b f last st))
 |0,_,st,h=>⟨h,id⟩
 |f+1,last,st,h=>by
  rw[kH];split
  ·rename_i hi;have h1:=RQ f (aW s T [[59]] st.2) _ (h.thn hS (kL b hS))
   refine⟨h1.1,fun _=>h1.2 ?_⟩;obtain⟨l,k,t,x,e,hk⟩:=XJ (s:=s) b st.2 hi.2.1;exact⟨st.1++l,k,t,x,by unfold Tr.thn;dsimp only;rw[e,aCL],hk⟩
  ·exact⟨h,id⟩
theorem Rp(i:Nat)(hi:i<=T.length)(hb:b<=dD s T i)(hn:aH T i<T.length)(hs:fK s T i=false):tZ s T b i (aS (qQ s T b i)):=by
 unfold qQ;have h1:=kH s T b T.length false ([],i);rw[if_pos ⟨rfl,hn,hs⟩] at h1;rw[h1];have h2:=RQ b hS T.length (aW s T [[59]] i) _ ((tZ.nil hi hb).thn hS (kL b hS))
 refine aj b h2.1 (h2.2 ?_);obtain⟨l,k,t,x,e,hk⟩:=XJ (s:=s) b i hn;exact⟨l,k,t,x,by unfold Tr.thn;dsimp only;rw[e,aCU],hk⟩
theorem Dy(i:Nat)(hi:i<=T.length)(hn:aH T i<T.length):QX (dD s T i) (dU s T i).1 (dD s T i):=by
 unfold dU;split
 ·exact(Rt (dD s T i) hS i hi (aBT _)).ok.1
 ·rename_i h;exact(Rp (dD s T i) hS i hi (aBT _) hn (by simpa using h)).ok.1
end
end Go.Proofs.YtcjjfeephaddcaaGreatDoor.Tr
namespace Go.Proofs.YtcjjfeephaddcaaGreatDoor.Sc
open Tr (PT St thn aS aK aN aQ nU dK bB eH fD gJ oG iA iX rowP xB BV jV aU V4 su o8 nC aW eT bR aH gX toP jI gY tQ XR wZ O9 uG wD fZ gL iP wE lY jN dA nT oC gT)
variable{w:List UInt8}{i:Nat}
def isNode(p:PT):Bool:=bA p||kindOf p==12
def MJ(k:Nat)(l:List PT):Prop:=
 (k=7->(∃x0 x1 r,aI l=x0::x1::r/\isNode x0=false/\isNode x1=false/\mY x1=false)/\(bF l).length=2)/\
 (k=9->∃x0 x1 r,aI l=x0::x1::r/\isNode x0=false/\mY x1=true/\kindOf x1=6)/\
 (k=18->∃x0,aI l=[x0]/\xD x0=true)/\
 (k=11->∃c a,l=[c,a]/\bA c=true/\mY a=true/\kindOf a=12)/\
 (k≠11->∀p∈l,kindOf p≠12)
mutual
def uE:PT->Prop
 | .leaf _ t _=>t≠ []
 | .gap _ _ _=>True
 | .branch k _ l=>MJ k l/\OQ l
def OQ:List PT->Prop
 | []=>True
 |p::l=>uE p/\OQ l
end
theorem yJ: ∀(l:List PT),OQ l↔∀p∈l,uE p
 | []=>by simp[OQ]
 |p::l=>by simp[OQ,yJ l]
def yX(l:List PT):Prop:= ∀p∈l,uE p/\kindOf p≠12
theorem yX.app {l m:List PT}(h:yX l)(h':yX m):yX (l++m):=fun p hp=>by
 rcases List.mem_append.1 hp with hp|hp
 ·exact h p hp
 ·exact h' p hp
theorem yX.shs {l:List PT}(h:yX l):OQ l:=(yJ l).2 fun p hp=>(h p hp).1
theorem yX.nil:yX []:=fun p hp=>absurd hp (by simp)
theorem yX.one {p:PT}(h:uE p)(hk:kindOf p≠12):yX [p]:=fun q hq=>by
 rw[List.mem_singleton] at hq;rw[hq];exact⟨h,hk⟩
def ED(f:Nat->St):Prop:= ∀i,yX (f i).1
def Wq(f:Nat->PT×Nat):Prop:= ∀i,uE (f i).1/\bA (f i).1=true
theorem FU{p:PT}(h:bA p=true):kindOf p≠12/\gK p=false/\xD p=false:=by
 cases p with
 |leaf k t a=>simp[bA] at h
 |gap t a d=>exact⟨by simp[kindOf],rfl,rfl⟩
 |branch k a l=>unfold bA at h;simp at h;exact⟨by simp[kindOf];omega,rfl,rfl⟩
theorem Wq.one {f:Nat->PT×Nat}(h:Wq f):ED fun i=>aS (f i):=fun i=>yX.one (h i).1 (FU (h i).2).1
theorem yX.thn {st:St}{f:Nat->St}(h:yX st.1)(hf:ED f):yX (thn st f).1:=h.app (hf st.2)
theorem yX.ite {st u:St}{p:Bool}(h:yX st.1)(hu:yX u.1):yX (if p then st else u).1:=by
 split
 ·exact h
 ·exact hu
theorem uF(l m:List PT):aI (l++m)=aI l++aI m:=aFT _ _
theorem SE(l m:List PT):bF (l++m)=bF l++bF m:=aFT _ _
theorem eY(st:St)(f:Nat->St):aI (thn st f).1=aI st.1++aI (f st.2).1:=uF _ _
theorem Kt(st:St)(f:Nat->St):bF (thn st f).1=bF st.1++bF (f st.2).1:=SE _ _
def oI(w:List UInt8)(x:PT):Prop:=(∃k a,x=.leaf k w a)\/∃a,x=.gap w a false
def qL(x:PT):Prop:=(∃t a,x=.leaf 3 t a)\/∃a,x=.gap lY a false
theorem oI.plain {x:PT}(h:oI w x)(hw:w≠jN):isNode x=false/\mY x=false:=by
 rcases h with ⟨k,a,rfl⟩|⟨a,rfl⟩
 ·exact⟨rfl,rfl⟩
 ·simp[isNode,bA,mY,kindOf,hw]
theorem oI.is {t:List UInt8}{x:PT}(h:oI w x)(hw:w≠t):sG t x=false:=by
 rcases h with ⟨k,a,rfl⟩|⟨a,rfl⟩
 ·simp[sG,hw]
 ·rfl
theorem qL.plain {x:PT}(h:qL x):isNode x=false/\mY x=false:=by
 rcases h with ⟨k,a,rfl⟩|⟨a,rfl⟩
 ·exact⟨rfl,rfl⟩
 ·exact⟨by simp only[isNode,bA,kindOf];decide,rfl⟩
section
variable{s:List UInt8}{T:List (Nat×Nat×Nat)}(b:Nat)(hT: ∀t∈T,jI s t≠ [])
theorem ER(i:Nat){p:PT}(hp:p∈(aK s T b i).1): ∃t∈T,p=gY s b t:=by
 unfold aK at hp;obtain⟨t,ht,rfl⟩:=aDQ.1 hp;exact⟨t,List.mem_of_mem_drop (List.mem_of_mem_take ht),rfl⟩
include hT in
theorem mU:ED (aK s T b):=fun i p hp=>by
 obtain⟨t,ht,rfl⟩:=ER b i hp;exact⟨by unfold gY uE;exact hT t ht,by simp[gY,kindOf]⟩
theorem AA(i:Nat):bF (aK s T b i).1=[]:=by
 unfold bF;rw[List.filter_eq_nil_iff];intro p hp;obtain⟨t,_,rfl⟩:=ER b i hp;simp[gY,bA]
theorem vB(hn:aH T i<T.length):aI (aK s T b i).1=[gY s b T[aH T i]]:=by
 have h0:=Tr.CL T i;have hb:=Tr.KZ (T:=T) i hn;have e:toP T i-i=(aH T i-i)+1:=by unfold toP;omega
 have hl:aH T i-i<(T.drop i).length:=by rw[aCB];omega
 have hg:(T.drop i)[aH T i-i]=T[aH T i]:=by
  rw[List.getElem_drop]
  congr 1
  omega
 have ht:(T.drop i).take (aH T i-i)=(T.drop i).takeWhile Tr.dY:=by have h1:(T.drop i).takeWhile Tr.dY++(T.drop i).dropWhile Tr.dY=T.drop i:=aGH;have h2:aH T i-i=((T.drop i).takeWhile Tr.dY).length:=(by unfold aH;omega);rw[h2];generalize(T.drop i).takeWhile Tr.dY=l1 at *;rw[<-h1];exact List.take_left' rfl
 have hx:aI [gY s b T[aH T i]]=[gY s b T[aH T i]]:=by
  unfold aI gY;rw[aGI]
  ·rfl
  ·unfold Tr.dY at hb;simp only[gK,hb,Bool.not_false]
 unfold aK;dsimp only;rw[e,aCP hl,aDI,uF,List.map_singleton,hg,hx,ht];have:aI (((T.drop i).takeWhile Tr.dY).map (gY s b))=[]:=by
  unfold aI;rw[List.filter_eq_nil_iff];intro p hp;obtain⟨t,h1,rfl⟩:=aDQ.1 hp;have:=List.all_takeWhile (p:=Tr.dY) (l:=T.drop i);have:=List.all_eq_true.1 this t h1;unfold Tr.dY at this;simp only[gY,gK,this]
  decide
 rw[this,aCU]
theorem lI(h:aW s T [w] i=true): ∃k a,aI (aK s T b i).1=[.leaf k w a]:=by
 have hn:=Tr.is_lt s T h;rw[vB b hn];unfold aW at h;rw[Tr.yB s T _ hn] at h;simp only[aCS,List.contains_cons,List.contains_nil,Bool.or_false,beq_iff_eq] at h;unfold gY;rw[h.2];exact⟨_,_,rfl⟩
theorem dO(w:List UInt8)(i:Nat): ∃x,aI (aN s T b w i).1=[x]/\oI w x:=by
 unfold aN;split
 ·rename_i h;obtain⟨k,a,h⟩:=lI b h;exact⟨_,h,.inl ⟨k,a,rfl⟩⟩
 ·exact⟨_,rfl,.inr ⟨_,rfl⟩⟩
theorem lH(i:Nat): ∃x,aI (aQ s T b i).1=[x]/\qL x:=by
 unfold aQ;split
 ·rename_i h;have hn:=Tr.af (k:=2) T (by simpa using h);rw[vB b hn];rw[Tr.tC T _ hn] at h;have h:=eq_of_beq h;refine⟨_,rfl,.inl ?_⟩;unfold gY;rw[h];exact⟨_,_,rfl⟩
 ·exact⟨_,rfl,.inr ⟨_,rfl⟩⟩
theorem JU(hw:w≠jN)(i:Nat):bF (aN s T b w i).1=[]:=by
 unfold aN;split
 ·exact AA b i
 ·simp[nU,bF,bA,hw]
theorem U7(i:Nat):bF (aQ s T b i).1=[]:=by
 unfold aQ;split
 ·exact AA b i
 ·unfold nU bF;rw[List.filter_cons_of_neg (by simp only[bA];decide)];rfl
theorem kT{r:PT×Nat}(h:bA r.1=true):aI (aS r).1=[r.1]:=by
 unfold aS aI;rw[aGI (by rw[(FU h).2.1];rfl)];rfl
theorem Ku{r:PT×Nat}(h:bA r.1=true):bF (aS r).1=[r.1]:=by
 unfold aS bF;rw[aGI h];rfl
include hT
theorem iH(w:List UInt8):ED (aN s T b w):=fun i=>by
 unfold aN;exact(mU b hT i).ite (yX.one (by unfold uE;trivial) (by simp[kindOf]))
theorem rP:ED (aQ s T b):=fun i=>by
 unfold aQ;split
 ·exact mU b hT i
 ·exact yX.one (by unfold uE;trivial) (by simp[kindOf])
theorem LD{one:Nat->St}(ho:ED one): ∀(f:Nat) (st:St),yX st.1->yX (dK s T b one f st).1
 |0,st,h=>h
 |f+1,st,h=>by
  rw[Tr.jS];split
  ·exact LD ho f _ ((h.thn (mU b hT)).thn ho)
  ·exact h
omit hT in
theorem rJ{k:Nat}{l:List PT}(h7:k≠7)(h9:k≠9)(h18:k≠18)(h11:k≠11)(h:yX l):MJ k l:=
 ⟨fun e=>absurd e h7,fun e=>absurd e h9,fun e=>absurd e h18,fun e=>absurd e h11,fun _ p hp=>(h p hp).2⟩
omit hT in
theorem KO{k:Nat}{st:St}(hh:MJ k st.1)(h:yX st.1):uE (nC s T b k i st).1:=by
 unfold nC uE;exact⟨hh,h.shs⟩
theorem QT(i:Nat):uE (bB s T b i).1:=by
 have h1:=iH b hT [40] i;have h2:=LD b hT (rP b hT) (T.length+1) _ (h1.thn (rP b hT));have h3:=((h1.ite (p:=aW s T [[41]] (aN s T b [40] i).2) h2).thn (iH b hT [41]))
 exact KO b (rJ (by omega) (by omega) (by omega) (by omega) h3) h3
theorem Dr{e:Nat->St}(he:ED e){kind:Nat}(hk:kind=12\/kind=13)(shut:List UInt8)(i:Nat):uE (eH s T b e kind shut i).1:=by
 have h1:=mU b hT i;have h2:=LD b hT he (T.length+1) _ (h1.thn he);have h3:=(h1.ite (p:=aW s T [shut] (aK s T b i).2) h2).thn (iH b hT shut);exact KO b (rJ (by omega) (by omega) (by omega) (by omega) h3) h3
omit hT in
theorem LK(k:Nat)(t:List UInt8):eT k t=0\/eT k t=15\/eT k t=16\/eT k t=17\/eT k t=18\/eT k t=19:=by
 unfold eT
 repeat' split
 all_goals simp
theorem Qm{e:Nat->St}(he:ED e):Wq (fD s T b e):=fun i=>by
 unfold fD;split
 ·rename_i h;have hw:=LK (bR T (aH T i)) (gX s T (aH T i));have hn:aH T i<T.length:=(by apply Nat.lt_of_not_le;intro hn;rw[Tr.mX T _ hn] at h;simp[eT] at h);have hO:=mU b hT i;have hS:=vB (s:=s) b hn;generalize eT (bR T (aH T i)) (gX s T (aH T i))=k at *;refine⟨KO b ⟨fun e=>by omega,fun e=>by omega,fun _=>⟨_,hS,rfl⟩,fun e=>by omega,fun _ p hp=>(hO p hp).2⟩ hO,?_⟩;simp[nC,bA];omega
 split
 ·have h:=((mU b hT i).thn he).thn (iH b hT [41]);exact⟨KO b (rJ (by omega) (by omega) (by omega) (by omega) h) h,rfl⟩
 split
 ·exact⟨Dr b hT he (.inr rfl) [93] i,rfl⟩
 ·exact⟨by unfold uE;trivial,by simp[bA]⟩
theorem SI{e:Nat->St}(he:ED e): ∀(f:Nat) (r:PT×Nat),uE r.1/\bA r.1=true->uE (gJ s T b e f r).1/\bA (gJ s T b e f r).1=true
 |0,r,h=>h
 |f+1,r,h=>by
  rw[Tr.jE];split
  ·refine SI he f _ ⟨?_,rfl⟩;have h2:=Dr b hT he (.inl rfl) [41] r.2;unfold uE;exact⟨⟨fun e=>by omega,fun e=>by omega,fun e=>by omega,fun _=>⟨_,_,rfl,h.2,rfl,rfl⟩,fun e=>absurd rfl e⟩,h.1,h2,trivial⟩
  ·exact h
theorem Uw{e:Nat->St}(he:ED e):Wq (oG s T b e):=fun i=>SI b hT he _ _ (Qm b hT he i)
theorem Ff{one:Nat->PT×Nat}(ho:Wq one){r:PT×Nat}(h:uE r.1/\bA r.1=true):uE (iA s T b one r).1/\bA (iA s T b one r).1=true:=by
 have h1:=(mU b hT r.2).thn ho.one;have h2:yX (r.1::(thn (aK s T b r.2) (fun i=>aS (one i))).1):=(yX.one h.1 (FU h.2).1).app h1;unfold iA;refine⟨?_,rfl⟩;unfold uE;exact⟨rJ (by omega) (by omega) (by omega) (by omega) h2,h2.shs⟩
theorem XT{one:Nat->PT×Nat}(ho:Wq one)(signs:List (List UInt8)): ∀(f:Nat) (r:PT×Nat),uE r.1/\bA r.1=true->uE (iX s T b one signs f r).1/\bA (iX s T b one signs f r).1=true
 |0,r,h=>h
 |f+1,r,h=>by
  rw[Tr.kU];split
  ·exact XT ho signs f _ (Ff b hT ho h)
  ·exact h
theorem Dc{one:Nat->PT×Nat}(ho:Wq one)(signs:List (List UInt8)):Wq (rowP s T b one signs):=fun i=>XT b hT ho signs _ _ (ho i)
theorem Uq{e:Nat->St}(he:ED e):Wq (jV s T b e):=fun i=>by
 have hs:Wq (BV s T b e):=Dc b hT (Dc b hT (Uw b hT he) _) _;unfold jV;split
 ·exact Ff b hT hs (hs i)
 ·exact hs i
theorem NF: ∀f,Wq (aU s T b f)
 |0=>fun i=>⟨by unfold aU uE;trivial,by unfold aU;simp[bA]⟩
 |f+1=>fun i=>by
  have OY:=NF f;have he:=OY.one;have ht:=mU b hT i;rw[aU];split
  ·rename_i hl;have h:=((((ht.thn (rP b hT)).thn (iH b hT [61])).thn he).thn (iH b hT O9)).thn he;refine⟨KO b ⟨fun _=>⟨?_,?_⟩,fun e=>by omega,fun e=>by omega,fun e=>by omega,fun _ p hp=>(h p hp).2⟩ h,rfl⟩
   ·obtain⟨k,a,h0⟩:=lI b hl;obtain⟨x,h1,hx⟩:=lH (s:=s) (T:=T) b (aK s T b i).2;simp only[eY,h0,h1,aCT];exact⟨_,_,_,rfl,rfl,hx.plain.1,hx.plain.2⟩
   ·simp only[Kt,AA,U7,JU _ (w:=[61]) (by decide),JU _ (w:=O9) (by decide),Ku (OY _).2,aCU,aCO];rfl
  split
  ·have h:=((((ht.thn he).thn (iH b hT uG)).thn he).thn (iH b hT wD)).thn he;exact⟨KO b (rJ (by omega) (by omega) (by omega) (by omega) h) h,rfl⟩
  split
  ·rename_i hl;have hp:ED fun i=>aS (bB s T b i):=fun i=>yX.one (QT b hT i) (by simp[bB,nC,kindOf])
   have h:=((ht.thn hp).thn (iH b hT [61,62])).thn he;refine⟨KO b ⟨fun e=>by omega,fun _=> ?_,fun e=>by omega,fun e=>by omega,fun _ p hp=>(h p hp).2⟩ h,rfl⟩;obtain⟨k,a,h0⟩:=lI b hl;have h1: ∀j,aI (aS (bB s T b j)).1=[(bB s T b j).1]:=fun j=>rfl
   simp only[eY,h0,h1,aCT];exact⟨_,_,_,rfl,rfl,rfl,rfl⟩
  ·exact Uq b hT he i
structure UseX(l:List PT):Prop where
 ex: ∃x0 x1 x2 x3 r,l=x0::x1::x2::x3::r/\qL x1/\qL x3/\((∃x4,r=[x4]/\sG wE x4=false)\/∃x4 x5 x6,r=[x4,x5,x6]/\sG wE x4=true/\qL x5)
structure DefX(l:List PT):Prop where
 ex: ∃x0 x1 r,l=x0::x1::r/\qL x1/\((∃x3 e x5,r=[x3,e,x5]/\mY x3=false/\uE e/\bA e=true)\/∃p x3 e x5,r=[p,x3,e,x5]/\mY p=true/\kindOf p=6/\uE e/\bA e=true)
theorem Zn:ED (dA s T b):=fun i=>by
 unfold dA;exact(mU b hT i).ite yX.nil
omit hT in
theorem DV{l m:List PT}{x:PT}{r:List PT}(he:l=[]\/∃k a,l=[.leaf k gL a])(hm:m=x::r)(hx:sG gL x=false):(if sG gL (mP (l++m) 0)then(l++m).drop 1 else l++m)=m:=by
 rcases he with rfl|⟨k,a,rfl⟩
 ·subst hm;simp[mP,hx]
 ·simp[mP,sG]
omit hT in
theorem Gz(i:Nat):aI (dA s T b i).1=[]\/∃k a,aI (dA s T b i).1=[.leaf k gL a]:=by
 unfold dA;split
 ·rename_i h;exact .inr (lI b h)
 ·exact .inl rfl
theorem V9(i:Nat):((kindOf (gT s T b i).1=3/\UseX (bN (gT s T b i).1))\/(kindOf (gT s T b i).1=4/\DefX (bN (gT s T b i).1)))/\mY (gT s T b i).1=true:=by
 have hp:=Gz (s:=s) (T:=T) b i;unfold gT;split
 ·refine⟨.inl ⟨rfl,?_⟩,rfl⟩;obtain⟨x0,h0,hx0⟩:=dO (s:=s) (T:=T) b fZ (dA s T b i).2;obtain⟨x1,h1,hx1⟩:=lH (s:=s) (T:=T) b (thn (dA s T b i) (aN s T b fZ)).2;obtain⟨x2,h2,hx2⟩:=dO (s:=s) (T:=T) b [46] (thn (thn (dA s T b i) (aN s T b fZ)) (aQ s T b)).2;obtain⟨x3,h3,hx3⟩:=lH (s:=s) (T:=T) b (thn (thn (thn (dA s T b i) (aN s T b fZ)) (aQ s T b)) (aN s T b [46])).2;unfold bN dP nC eZ;dsimp only
  by_cases ha:aW s T [wE] (thn (thn (thn (thn (dA s T b i) (aN s T b fZ)) (aQ s T b)) (aN s T b [46])) (aQ s T b)).2=true
  ·obtain⟨k,a,h4⟩:=lI b ha;obtain⟨x5,h5,hx5⟩:=lH (s:=s) (T:=T) b (thn (thn (thn (thn (thn (dA s T b i) (aN s T b fZ)) (aQ s T b)) (aN s T b [46])) (aQ s T b)) (aK s T b)).2;obtain⟨x6,h6,hx6⟩:=dO (s:=s) (T:=T) b [59] (thn (thn (thn (thn (thn (thn (dA s T b i) (aN s T b fZ)) (aQ s T b)) (aN s T b [46])) (aQ s T b)) (aK s T b)) (aQ s T b)).2;have e:aI (nT s T b (dA s T b i)).1=aI (dA s T b i).1++[x0,x1,x2,x3,.leaf k wE a,x5,x6]:=(by unfold nT;dsimp only;rw[if_pos ha];simp only[eY,h0,h1,h2,h3,h4,h5,h6,aCL,aCT,aCU]);rw[e,DV hp rfl (hx0.is (by decide))];exact⟨_,_,_,_,_,rfl,hx1,hx3,.inr ⟨_,_,_,rfl,by simp[sG],hx5⟩⟩
  ·obtain⟨x6,h6,hx6⟩:=dO (s:=s) (T:=T) b [59] (thn (thn (thn (thn (dA s T b i) (aN s T b fZ)) (aQ s T b)) (aN s T b [46])) (aQ s T b)).2;have e:aI (nT s T b (dA s T b i)).1=aI (dA s T b i).1++[x0,x1,x2,x3,x6]:=(by unfold nT;dsimp only;rw[if_neg ha];simp only[eY,h0,h1,h2,h3,h6,aCL,aCT,aCU]);rw[e,DV hp rfl (hx0.is (by decide))];exact⟨_,_,_,_,_,rfl,hx1,hx3,.inl ⟨_,rfl,hx6.is (by decide)⟩⟩
 ·refine⟨.inr ⟨rfl,?_⟩,rfl⟩;obtain⟨x0,h0,hx0⟩:=dO (s:=s) (T:=T) b iP (dA s T b i).2;obtain⟨x1,h1,hx1⟩:=lH (s:=s) (T:=T) b (thn (dA s T b i) (aN s T b iP)).2;unfold bN dP nC eZ;dsimp only;have OY:=NF b hT 65
  by_cases ha:aW s T [[40]] (thn (thn (dA s T b i) (aN s T b iP)) (aQ s T b)).2=true
  ·obtain⟨x3,h3,hx3⟩:=dO (s:=s) (T:=T) b [61] (thn (thn (thn (dA s T b i) (aN s T b iP)) (aQ s T b)) (fun i=>aS (bB s T b i))).2;obtain⟨x5,h5,hx5⟩:=dO (s:=s) (T:=T) b [59] (thn (thn (thn (thn (thn (dA s T b i) (aN s T b iP)) (aQ s T b)) (fun i=>aS (bB s T b i))) (aN s T b [61])) (fun i=>aS (aU s T b 65 i))).2;have hp2: ∀j,aI (aS (bB s T b j)).1=[(bB s T b j).1]:=fun j=>rfl
   have e: ∃p e,aI (oC s T b (dA s T b i)).1=aI (dA s T b i).1++[x0,x1,p,x3,e,x5]/\mY p=true/\kindOf p=6/\uE e/\bA e=true:=(by unfold oC;dsimp only;rw[if_pos ha];simp only[eY,h0,h1,h3,h5,hp2,kT (OY _).2,aCL,List.singleton_append];exact⟨_,_,rfl,rfl,rfl,(OY _).1,(OY _).2⟩);obtain⟨p,e,e1,e2,e3,e4,e5⟩:=e;rw[e1,DV hp rfl (hx0.is (by decide))];exact⟨_,_,_,rfl,hx1,.inr ⟨_,_,_,_,rfl,e2,e3,e4,e5⟩⟩
  ·obtain⟨x3,h3,hx3⟩:=dO (s:=s) (T:=T) b [61] (thn (thn (dA s T b i) (aN s T b iP)) (aQ s T b)).2;obtain⟨x5,h5,hx5⟩:=dO (s:=s) (T:=T) b [59] (thn (thn (thn (thn (dA s T b i) (aN s T b iP)) (aQ s T b)) (aN s T b [61])) (fun i=>aS (aU s T b 65 i))).2;have e: ∃e,aI (oC s T b (dA s T b i)).1=aI (dA s T b i).1++[x0,x1,x3,e,x5]/\uE e/\bA e=true:=(by unfold oC;dsimp only;rw[if_neg ha];simp only[eY,h0,h1,h3,h5,kT (OY _).2,aCL,List.singleton_append];exact⟨_,rfl,(OY _).1,(OY _).2⟩);obtain⟨e,e1,e4,e5⟩:=e;rw[e1,DV hp rfl (hx0.is (by decide))];exact⟨_,_,_,rfl,hx1,.inl ⟨_,_,_,rfl,(hx3.plain (by decide)).2,e4,e5⟩⟩
theorem Rs(i:Nat):yX (eZ (gT s T b i).1):=by
 have h0:=Zn b hT i;unfold gT;split
 ·show yX (nT s T b (dA s T b i)).1;unfold nT;have h4:=(((h0.thn (iH b hT fZ)).thn (rP b hT)).thn (iH b hT [46])).thn (rP b hT);have h5:=(h4.thn (mU b hT)).thn (rP b hT);exact(h5.ite h4).thn (iH b hT [59])
 ·show yX (oC s T b (dA s T b i)).1;unfold oC;have hp:ED fun i=>aS (bB s T b i):=fun i=>yX.one (QT b hT i) (by simp[bB,nC,kindOf])
  have h4:=(h0.thn (iH b hT iP)).thn (rP b hT);exact((((h4.thn hp).ite h4).thn (iH b hT [61])).thn (NF b hT 65).one).thn (iH b hT [59])
end
structure ItX(p:PT):Prop where
 br:mY p=true
 kids:yX (eZ p)
 ways:(kindOf p=3/\UseX (bN p))\/(kindOf p=4/\DefX (bN p))
theorem LP{s:List UInt8}{T:List (Nat×Nat×Nat)}(hT: ∀t∈T,jI s t≠ []): ∀(f i:Nat),∀k∈(Tr.bV s T f i).1,gU k=true->ItX k.part
 |0,i,k,hk,_=>by unfold Tr.bV at hk;exact absurd hk (by simp)
 |f+1,i,k,hk,hi=>by
  unfold Tr.bV at hk;split at hk
  ·rcases List.mem_cons.1 hk with rfl|hk
   ·unfold gU at hi;dsimp only at hi⊢;unfold Tr.dU at hi⊢;split at hi
    ·rename_i h;rw[if_pos h];have:=V9 (Tr.dD s T i) hT i;exact⟨this.2,Rs (Tr.dD s T i) hT i,this.1⟩
    ·exact absurd hi (by simp[Tr.qQ,nC,kindOf])
   ·exact LP hT f _ k hk hi
  ·exact absurd hk (by simp)
end Go.Proofs.YtcjjfeephaddcaaGreatDoor.Sc
namespace Go.Proofs.YtcjjfeephaddcaaGreatDoor
open Go.RowKit
variable{e:TypeId}{B k n:Nat}{w:World}{v:Value}{xs:List Value}{l:List UInt8}
def Rd(w:World)(B size:Nat)(A:Option Addr)(n:Nat)(xs:List Value):Prop:=
 xs.length=n*size/\(0<n->∃b o,A=some ⟨b,o,none⟩/\b<B/\∀j u,xs[j]? =some u->w.cell? ⟨b,o+j,none⟩=some u)
section
variable{w w':World}{B B' size n:Nat}{A:Option Addr}{xs:List Value}
theorem Rd.none_:Rd w B size A 0 []:=⟨by simp,fun h=>absurd h (by omega)⟩
theorem Rd.keep (h:Rd w B size A n xs)(hk: ∀b o,b<B->w'.cell? ⟨b,o,none⟩=w.cell? ⟨b,o,none⟩):Rd w' B size A n xs:=
 ⟨h.1,fun hn=>by obtain⟨b,o,e,hb,hc⟩:=h.2 hn;exact⟨b,o,e,hb,fun j u hu=>(hk _ _ hb).trans (hc j u hu)⟩⟩
theorem Rd.more (h:Rd w B size A n xs)(hB:B<=B'):Rd w B' size A n xs:=
 ⟨h.1,fun hn=>by obtain⟨b,o,e,hb,hc⟩:=h.2 hn;exact⟨b,o,e,by omega,hc⟩⟩
theorem Rd.below (h:Rd w B size A n xs)(hb:Below B w w'):Rd w' B size A n xs:=h.keep fun _ _ hp=>hb.cell hp
theorem Rd.rO {base:Nat}{c:Nat}(h:w.ownsRow base e size (.slice A n c) n xs):Rd w w.heap.size size A n xs:=by
 refine⟨h.1,fun hn=> ?_⟩;obtain⟨g,cap,hv,_,hlt⟩:=h.form hn;have hA:A=some ⟨g,0,none⟩:=by injection hv
 subst hA;refine⟨g,0,rfl,hlt,fun j u hu=> ?_⟩;have:=h.cells (g:=g) rfl j u hu;unfold Addr.add at this
 by_cases hj:j=0
 ·subst hj;simpa using this
 ·simpa [hj] using this
end
theorem below_drewN{a:World}(h:Below B a w)(n:Nat):Below B a (w.drewN n):=⟨h.os,h.tape,h.output,h.size,h.block⟩
theorem D6(s:ByteArray)(a f:Nat):(s.extract a f).data.toList=(s.data.toList.drop a).take (f-a):=by
 rw[ByteArray.data_extract,Array.toList_extract,List.extract_eq_take_drop]
theorem bG(l:List UInt8):(⟨l.toArray⟩:ByteArray).size=l.length:=by show l.toArray.size=_;simp
theorem NH(s:ByteArray):s.data.toList.length=s.size:=by rw[Array.length_toList];rfl
theorem qY(w:World)(o:Obj)(b i:Nat)(h:b<w.heap.size):(w.alloc o).frozen? ⟨b,i,none⟩=w.frozen? ⟨b,i,none⟩:=
 World.frozen?_of_block (a:=⟨b,i,none⟩) (aEQ w o b h)
theorem aJ(w:World)(o:Obj)(b i:Nat)(h:b<w.heap.size):(w.alloc o).cell? ⟨b,i,none⟩=w.cell? ⟨b,i,none⟩:=
 World.cell?_of_block (a:=⟨b,i,none⟩) (aEQ w o b h)
section
variable{T:List TypeId}{a w w':World}
theorem qX{o:Obj}(h:w.heap[k]? =some o):k<w.heap.size:=by
 rcases aCN k w.heap.size with h'|h'
 ·exact h'
 ·rw[Array.getElem?_eq_none h'] at h;cases h
end
theorem eU{base:Nat}{size:Nat}(h:w.ownsRow base e size v n xs)(g:Nat)(hg:v.ownBlock=some g): ∃cs fr,w.heap[g]? =some (.cells cs e fr):=by
 rcases h.2 with ⟨rfl,_⟩|⟨g',cap,cur,rfl,_,hh,_⟩
 ·simp[aCZ] at hg
 ·simp only[aCZ,aDB.injEq] at hg;subst hg;exact⟨_,_,hh⟩
def aV(w:World)(g:Nat)(t:TypeId)(cs:Array Value):Prop:=w.heap[g]? =some (.cells cs t (0,0))
section
variable{w w':World}{g:Nat}{t:TypeId}{cs:Array Value}
theorem aV.lt (h:aV w g t cs):g<w.heap.size:=qX h
theorem aV.cell (h:aV w g t cs)(i:Nat):w.cell? ⟨g,i,none⟩=cs[i]? :=by unfold aV at h;simp[World.cell?,h]
theorem aV.frozen (h:aV w g t cs)(i:Nat):w.frozen? ⟨g,i,none⟩=false:=by unfold aV at h;simp[World.frozen?,h]
theorem aV.new (w:World)(t:TypeId)(cs:Array Value):aV (w.alloc (.cells cs t)) w.heap.size t cs:=heap_alloc_new w _
theorem nR(w:World)(o:Obj):Below w.heap.size w (w.alloc o):=(Below.refl _ _).alloc (aBT _) o
theorem uS(w:World)(t:TypeId)(cs:Array Value):Below w.heap.size w (w.alloc (.cells cs t))/\aV (w.alloc (.cells cs t)) w.heap.size t cs:=⟨nR w _,aV.new w t cs⟩
theorem dC{α:Type}(a:α): ∃z,z=a:=⟨_,rfl⟩
theorem jJ(a b:Nat)(h:a<b:=by omega):(a:Int)<(b:Int):=Int.ofNat_lt.2 h
theorem lC(a:Nat): ¬(a:Int)<(a:Int):=Int.lt_irrefl _
theorem kZ(a:Nat):decide (a<a)=false:=decide_eq_false (Nat.lt_irrefl a)
theorem iZ(i:Nat):(0:Int)<=(i:Int):=Int.natCast_nonneg i
theorem uX(i:Nat)(h: -9223372036854775808<=(i:Int)+1/\(i:Int)+1<=9223372036854775807):IntKind.i64.wrap ((i:Int)+1)=(i:Int)+1:=IntWalk.i64_in _ h
theorem Ya{w':World}{p:Addr}(hd:Below w.heap.size w w')(z:w.cell? p=some v):w'.cell? p=some v:=(hd.cell (World.block_lt_of_cell? w _ z)).trans z
abbrev pZZ(q:Nat):Value:=.pointer (some ⟨q,0,none⟩)
abbrev vZZ(n:Nat):Value:=.int .i64 (n:Int)
abbrev kZZ(n:Int):Value:=.int .i64 n
abbrev nZZ:Value:=.slice none 0 0
abbrev oZZ:Value:=.pointer none
theorem aV.drew (h:aV w g t cs):aV w.drew g t cs:=h
theorem aV.drewN (h:aV w g t cs)(n:Nat):aV (w.drewN n) g t cs:=h
theorem aV.alloc (h:aV w g t cs)(o:Obj):aV (w.alloc o) g t cs:=(aEQ w o g h.lt).trans h
theorem aV.bD (h:aV w g t cs)(i:Nat)(u:Value):aV (w.setCell ⟨g,i,none⟩ u) g t (cs.setIfInBounds i u):=by
 unfold aV at h⊢;simp[World.setCell,Array.getElem?_modify,h]
theorem aV.far (h:aV w g t cs){p:Addr}(hp:g≠p.block)(u:Value):aV (w.setCell p u) g t cs:=(Below.heap_setCell w p u g hp).trans h
theorem aV.below (h:aV w g t cs)(hb:Below B w w')(hg:g<B):aV w' g t cs:=(hb.block g hg).trans h
theorem aV.grown {row:Option Nat}(h:aV w g t cs)(hb:w.grownBy w' row)(hg:some g≠row):aV w' g t cs:=(hb.block g h.lt hg).trans h
end
theorem own_ne{base:Nat}{t:TypeId}{size:Nat}{g:Nat}{cs:Array Value}(h:w.ownsRow base e size v n xs)(hg:aV w g t cs)(hne:e≠t):some g≠v.ownBlock:=fun e'=>by
 obtain⟨cs',fr,h1⟩:=eU h g e'.symm;unfold aV at hg;rw[hg] at h1;injection h1 with h1;injection h1 with _ h1 _;exact hne h1.symm
theorem aM{w':World}{base:Nat}{size:Nat}(h:w.ownsRow base e size v n xs)
  (hk: ∀k,v.ownBlock=some k->w'.heap[k]? =w.heap[k]?):w'.ownsRow base e size v n xs:=by
 refine⟨h.1,?_⟩;rcases h.2 with hn|⟨g,cap,cur,rfl,hb,hgg,rest⟩
 ·exact .inl hn
 ·exact .inr ⟨g,cap,cur,rfl,hb,by rw[hk g rfl];exact hgg,rest⟩
theorem KW{base base':Nat}{size:Nat}(h:w.ownsRow base e size v n xs)(hb:base'<=base):w.ownsRow base' e size v n xs:=by
 refine⟨h.1,?_⟩;rcases h.2 with hn|⟨g,cap,cur,hv,hg,r⟩
 ·exact .inl hn
 ·exact .inr ⟨g,cap,cur,hv,aBV hb hg,r⟩
theorem CJ{base:Nat}{size:Nat}(h:w.ownsRow base e size v n xs): ∃A cap,v=.slice A n cap:=by
 rcases h.2 with ⟨rfl,rfl⟩|⟨g,cap,cur,rfl,_⟩
 ·exact⟨none,0,rfl⟩
 ·exact⟨_,_,rfl⟩
theorem CK{base:Nat}{size g cap:Nat}(h:w.ownsRow base e size (.slice (some ⟨g,0,none⟩) n cap) n xs)(j:Nat)(u:Value)(hu:xs[j]? =some u):w.cell? ⟨g,j,none⟩=some u:=by
 have:=h.cells (g:=g) rfl j u hu;have e:(⟨g,0,none⟩:Addr).add j=⟨g,j,none⟩:=by unfold Addr.add;split<;>simp_all
 rwa [e] at this
abbrev Bs:=List UInt8
def ET(b:Bs):Value:=.string ⟨b.toArray⟩
def mR(l:List Bs):List Value:=l.map ET
theorem XE(l:List Bs):(mR l).length=l.length:=by simp[mR]
theorem Ox(l:List Bs)(hk:k<l.length):(mR l)[k]? =some (ET l[k]):=by
 simp[mR,aBY hk]
theorem Rd.txt {A:Option Addr}{l:List Bs}(h:Rd w B 1 A l.length (mR l))(hk:k<l.length):
  ∃b o,A=some ⟨b,o,none⟩/\b<B/\w.cell? ⟨b,o+k,none⟩=some (ET l[k]):=by
 obtain⟨b,o,e,hb,hc⟩:=h.2 (by omega);exact⟨b,o,e,hb,hc k _ (Ox l hk)⟩
theorem DL(s:Bs)(a f:Nat):Value.string ((⟨s.toArray⟩:ByteArray).extract a f)=ET ((s.take f).drop a):=by
 unfold ET
 congr 1
 rw[<-Lib.mk_data ((⟨s.toArray⟩:ByteArray).extract a f)]
 congr 2
 rw[D6];simp[List.drop_take]
def aF(l:List UInt8)(k:Nat):Nat:=(l[k]?.getD 0).toNat
def gI(l:List UInt8)(k:Nat):Bool:=decide (k<l.length)&&aF l k/64==2
def dec(l:List UInt8):Nat×Nat:=
 if aF l 0<0x80 then(aF l 0,1)
 else if aF l 0/32==6&&gI l 1 then
  if(aF l 0%32)*64+aF l 1%64≥0x80 then((aF l 0%32)*64+aF l 1%64,2)else(aEZ,1)
 else if aF l 0/16==14&&gI l 1&&gI l 2 then
  if(aF l 0%16)*4096+(aF l 1%64)*64+aF l 2%64≥0x800&&Utf8.valid (((aF l 0%16)*4096+(aF l 1%64)*64+aF l 2%64:Nat):Int)then((aF l 0%16)*4096+(aF l 1%64)*64+aF l 2%64,3)else(aEZ,1)
 else if aF l 0/8==30&&gI l 1&&gI l 2&&gI l 3 then
  if(aF l 0%8)*262144+(aF l 1%64)*4096+(aF l 2%64)*64+aF l 3%64≥0x10000&&Utf8.valid (((aF l 0%8)*262144+(aF l 1%64)*4096+(aF l 2%64)*64+aF l 3%64:Nat):Int)then((aF l 0%8)*262144+(aF l 1%64)*4096+(aF l 2%64)*64+aF l 3%64,4)else(aEZ,1)
 else(aEZ,1)
theorem F8(s:ByteArray)(pos k:Nat):(s.get! (pos+k)).toNat=aF (s.data.toList.drop pos) k:=by
 unfold aF;rw[aEY];show(s.data[pos+k]!).toNat=_;rw[Array.getElem!_eq_getD,Array.getD_eq_getD_getElem?,Array.getElem?_toList];rfl
theorem Uo(s:ByteArray)(pos k:Nat):(decide (pos+k<s.size)&&(s.get! (pos+k)).toNat/64==2)=gI (s.data.toList.drop pos) k:=by
 unfold gI;rw[F8,aCB,<-Go.Lib.size_eq]
 congr 1
 simp;omega
theorem Ld(s:ByteArray)(pos:Nat):Utf8.decode s pos=dec (s.data.toList.drop pos):=by
 unfold Utf8.decode dec;simp only[Uo];simp only[F8]
theorem pY(h:gI l k=true):k<l.length/\aF l k/64=2:=by
 unfold gI at h;simpa using h
theorem kQ(l:List UInt8):1<=(dec l).2/\(dec l).2<=4/\∀j,1<=j->j<(dec l).2->j<l.length/\aF l j/64=2:=by
 unfold dec;split
 ·exact⟨by simp,by simp,fun j h1 h2=>by simp at h2;omega⟩
 split
 ·rename_i h;simp only[aCS] at h;have h1:=pY h.2;split
  ·exact⟨by simp,by simp,fun j h2 h3=>(by have e:j=1:=(by simp at h3;omega);rw[e];exact h1)⟩
  ·exact⟨by simp,by simp,fun j h1 h2=>by simp at h2;omega⟩
 split
 ·rename_i h;simp only[aCS] at h;have h1:=pY h.1.2;have h2:=pY h.2;split
  ·refine⟨by simp,by simp,fun j h3 h4=> ?_⟩;have h5:j=1\/j=2:=by simp at h4;omega
   rcases h5 with rfl|rfl<;>assumption
  ·exact⟨by simp,by simp,fun j h1 h2=>by simp at h2;omega⟩
 split
 ·rename_i h;simp only[aCS] at h;have h1:=pY h.1.1.2;have h2:=pY h.1.2;have h3:=pY h.2;split
  ·refine⟨by simp,by simp,fun j h3 h4=> ?_⟩;have h5:j=1\/j=2\/j=3:=by simp at h4;omega
   rcases h5 with rfl|rfl|rfl<;>assumption
  ·exact⟨by simp,by simp,fun j h1 h2=>by simp at h2;omega⟩
 ·exact⟨by simp,by simp,fun j h1 h2=>by simp at h2;omega⟩
theorem xO(l:List UInt8)(h:l≠ []):(dec l).2<=l.length:=by
 obtain⟨h1,h2,h3⟩:=kQ l;rcases aCN 1 (dec l).2 with h4|h4
 ·have:=h3 ((dec l).2-1) (by omega) (by omega);omega
 ·have:0<l.length:=aFO.2 h;omega
theorem VN(h:128<=aF l 0):128<=(dec l).1:=by
 unfold dec;rw[if_neg (by omega)];split
 ·split
  ·rename_i h;exact h
  ·show 128<=aEZ;decide
 split
 ·split
  ·rename_i h;simp only[aCS,decide_eq_true_eq] at h;show 128<=_;omega
  ·show 128<=aEZ;decide
 split
 ·split
  ·rename_i h;simp only[aCS,decide_eq_true_eq] at h;show 128<=_;omega
  ·show 128<=aEZ;decide
 ·show 128<=aEZ;decide
theorem FW(h:aF l 0<128):dec l=(aF l 0,1):=by unfold dec;rw[if_pos (by omega)]
end Go.Proofs.YtcjjfeephaddcaaGreatDoor
namespace Go.Proofs.YtcjjfeephaddcaaGreatDoor.Lx
def dI(c:Nat):Bool:=(decide (97<=c)&&decide (c<=122)||decide (65<=c)&&decide (c<=90)||c==95)||(decide (192<=c)&&decide (c<=591)&&(c !=215&&c !=247))||(decide (880<=c)&&decide (c<=1023))||(decide (1024<=c)&&decide (c<=1279))
def cB(c:Nat):Bool:=decide (48<=c)&&decide (c<=57)
def cO(c:Nat):Bool:=c==9||c==10||c==13||c==32
def kR(c:Nat):Bool:=dI c||cB c
def TQ(p:Nat->Bool):Nat->List UInt8->Nat
 |0,_=>0
 |f+1,l=>if l.isEmpty then 0 else if p (dec l).1 then(dec l).2+TQ p f (l.drop (dec l).2)else 0
def run(p:Nat->Bool)(l:List UInt8):Nat:=TQ p l.length l
theorem QL(p:Nat->Bool): ∀(f g:Nat) (l:List UInt8),l.length<=f->l.length<=g->TQ p f l=TQ p g l
 |0,0,_,_,_=>rfl
 |0,g+1,l,h,_=>by have:l=[]:=aDV (by omega);subst this;simp[TQ]
 |f+1,0,l,_,h=>by have:l=[]:=aDV (by omega);subst this;simp[TQ]
 |f+1,g+1,l,h1,h2=>by
  simp only[TQ];cases hl:l.isEmpty with
  |true=>rfl
  |false=>have hd:=kQ l;rw[QL p f g (l.drop (dec l).2) (by rw[aCB];omega) (by rw[aCB];omega)]
theorem Cz(p:Nat->Bool):run p []=0:=rfl
theorem run_go(p:Nat->Bool){l:List UInt8}(hl:l≠ [])(hp:p (dec l).1=true):run p l=(dec l).2+run p (l.drop (dec l).2):=by
 have hd:=kQ l;have h0:0<l.length:=aFO.2 hl;unfold run;obtain⟨f,hf⟩: ∃f,l.length=f+1:=⟨l.length-1,by omega⟩;rw[hf];simp only[TQ];rw[if_neg (by simpa using hl),if_pos hp,QL p f (l.drop (dec l).2).length _ (by rw[aCB];omega) (by omega)]
theorem xA(p:Nat->Bool){l:List UInt8}(hp:p (dec l).1=false):run p l=0:=by
 unfold run;cases l.length with
 |zero=>rfl
 |succ f=>simp only[TQ];rw[if_neg (by simp[hp]: ¬p (dec l).1=true)];split<;>rfl
theorem EX(p:Nat->Bool): ∀(n:Nat) (l:List UInt8),l.length=n->run p l<=l.length:=by
 intro n
 induction n using Nat.strongRecOn with
 |_ n ih=>
  intro l hl
  by_cases h0:l=[]
  ·subst h0;simp[Cz]
  ·cases hp:p (dec l).1 with
   |false=>rw[xA p hp];omega
   |true=>have hd:=kQ l;have hle:=xO l h0;have:=ih (l.drop (dec l).2).length (by rw[aCB];have:=aFO.2 h0;omega) _ rfl;rw[run_go p h0 hp];rw[aCB] at this;omega
theorem EY(p:Nat->Bool)(h: ∀c,128<=c->p c=false): ∀l:List UInt8,run p l=(l.takeWhile fun b=>p b.toNat).length
 | []=>rfl
 |b::t=>by
  have hb:aF (b::t) 0=b.toNat:=rfl;rcases aCN b.toNat 128 with h1|h1
  ·have hd:dec (b::t)=(b.toNat,1):=(by rw[FW (by rw[hb];exact h1),hb]);cases hp:p b.toNat with
   |true=>rw[run_go p (by simp) (by rw[hd];exact hp),hd];simp only[List.takeWhile_cons,hp,if_true,List.length_cons,List.drop_succ_cons,List.drop_zero];rw[EY p h t];omega
   |false=>rw[xA p (by rw[hd];exact hp)];simp[hp]
  ·rw[xA p (h _ (VN (by rw[hb];exact h1)))];simp[h _ h1]
def iR:Nat->List UInt8->Option Nat
 |_,[]=>none
 |_,[_]=>none
 |d,a::b::t=>
  if a=123/\b=45 then(iR (d+1) t).map (· +2)
  else if a=45/\b=125 then(if d=1 then some 2 else(iR (d-1) t).map (· +2))
  else(iR d (b::t)).map (· +1)
def nY(b:UInt8):Option Nat:=
 if 48<=b.toNat/\b.toNat<=57 then some (b.toNat-48)else if 97<=b.toNat/\b.toNat<=102 then some (b.toNat-87)else if 65<=b.toNat/\b.toNat<=70 then some (b.toNat-55)else none
def lU(acc:Nat):List UInt8->Option Nat
 | []=>some acc
 |b::t=>match nY b with
  |some d=>lU (acc*16+d) t
  |none=>none
def oP(l:List UInt8):Option (Nat×Nat):=
 match l with
 | []=>none
 |a::r=>
  if a≠123 then none else
   if¬(125∈r)then none else
    let D:=r.takeWhile (· !=125)
    if D.length<1\/6<D.length then none else
     match lU 0 D with
     |none=>none
     |some n=>if n>1114111\/(55296<=n/\n<=57343)then none else some (n,D.length+2)
def JB(l:List UInt8):Option (Nat×Nat):=
 match l with
 | []=>none
 |a::r=>if a=110 then some (10,1)else if a=116 then some (9,1)else if a=34\/a=92 then some (a.toNat,1)else if a=117 then(oP r).map fun x=>(x.1,x.2+1)else none
def kY:Nat->Bool->List UInt8->Nat×Bool×Bool
 |0,r,_=>(0,false,r)
 |f+1,r,l=>
  match l with
  | []=>(0,false,r)
  |a::t=>
   if a=10 then(0,false,r)
   else if a=34 then(1,true,r)
   else if a=92 then
    match JB t with
    |some (_,n)=>((kY f r (t.drop n)).1+(1+n),(kY f r (t.drop n)).2)
    |none=>
     let n:=if t.isEmpty\/aF t 0=10 then 0 else(dec t).2
     ((kY f false (t.drop n)).1+(1+n),(kY f false (t.drop n)).2)
   else((kY f r t).1+1,(kY f r t).2)
def jL(l:List UInt8):Nat×Bool×Bool:=kY l.length true l
def Yt(l:List UInt8):Bool:=[61,62].isPrefixOf l|| [61,61].isPrefixOf l|| [43,43].isPrefixOf l
def signs:List UInt8:=[40,41,91,93,44,59,61,60,43,45,42,46,63]
def qP(l:List UInt8):Nat:=if Yt l then 2 else match l with
 | []=>0
 |a::_=>if signs.contains a then 1 else 0
def words:List (List UInt8):=[[117,115,101],[97,115],[112,117,98],[100,101,102],[108,101,116],[105,110],[105,102],[116,104,101,110],[101,108,115,101],[102,117,110],[116,114,117,101],[102,97,108,115,101]]
def zK(l:List UInt8):Bool:=words.contains l
def gM(l:List UInt8):Nat×Nat:=
 if cO (dec l).1 then(1,run cO l)
 else if [45,45].isPrefixOf l then(2,(l.takeWhile (· !=10)).length)
 else if [123,45].isPrefixOf l then
  match iR 1 (l.drop 2)with
  |some k=>(2,k+2)
  |none=>(8,l.length)
 else if dI (dec l).1 then(if zK (l.take (run kR l))then 4 else 3,run kR l)
 else if cB (dec l).1 then(if run cB l<=18 then 5 else 8,run cB l)
 else if(dec l).1=34 then(if(jL (l.drop 1)).2.1/\(jL (l.drop 1)).2.2 then 6 else 8,(jL (l.drop 1)).1+1)
 else if qP l>0 then(7,qP l)
 else(8,(dec l).2)
def XF:Nat->Nat->List UInt8->List (Nat×Nat×Nat)
 |0,_,_=>[]
 |f+1,at_,l=>if l.isEmpty then [] else((gM l).1,at_,(gM l).2)::XF f (at_+(gM l).2) (l.drop (gM l).2)
end Go.Proofs.YtcjjfeephaddcaaGreatDoor.Lx
