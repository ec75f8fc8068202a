import Derived.Test.YtcjjfeephaddcaaGreatDoorJab
import Derived.Lib.ConvBytes
import Derived.Laws.Strings3
import Derived.Laws.Closers25
import Derived.Laws.Closers25b
import Derived.BigCall
import Derived.BigGuard
import Derived.Test.YtcjjfeephaddcaaGreatDoorShelfX
import Derived.Shelf.Spec.BytesIndexFunc
import Derived.Lib.IndexLaws
import Derived.Lib.SlTrimSet
import Derived.Lib.ItoaNum
import Derived.Lib.Atoi
import Derived.Test.YtcjjfeephaddcaaGreatDoorShelfW
import Derived.Shelf.Strings.SlTrimAscii
import Derived.Lib.LaidTab
import Derived.Lib.AtoiAll
set_option linter.all false
open Go.IntKind renaming wrap_u64->aGS
open Go.Proofs.Tryz renaming prog->aBS
open Go.RowKit.Below renaming refl->aBU
open Go.World renaming block_lt_of_cell?->aDA
open List renaming getElem?_eq_getElem->aBY,length_drop->aCB,length_cons->aCC,mem_cons->aCJ,getElem_mem->aCR,cons_append->aCT,length_take->aCY,mem_of_getElem?->aDC,take_length->aDF,length->aDG,eq_nil_of_length_eq_zero->aDV,takeWhile_cons->aDW,take_succ_cons->aDX,take_of_length_le->aDY,drop_zero->aDZ,isPrefixOf->aEF,length_pos_iff->aFO,drop_succ_cons->aFZ,takeWhile_sublist->aGR
open Nat renaming le_refl->aBT,zero_le->aBZ,eq_zero_or_pos->aFU
open Option renaming map_eq_some_iff->aFA
open Or renaming inl->aDL
open UInt8 renaming ofNat->aET
set_option maxHeartbeats 64000000
set_option maxRecDepth 100000
open Go.Proofs.Tryz
namespace Go.Proofs.YtcjjfeephaddcaaGreatDoor.Lx
variable{l:List UInt8}
theorem CE: ∀(l:List UInt8) (d k:Nat),iR d l=some k->2<=k/\k<=l.length
 | [],_,_,h=>by simp[iR] at h
 | [_],_,_,h=>by simp[iR] at h
 |a::b::t,d,k,h=>by
  simp only[iR] at h;split at h
  ·rw[aFA] at h;obtain⟨j,hj,rfl⟩:=h;have:=CE t _ _ hj;simp only[aCC];omega
  ·split at h
   ·split at h
    ·injection h with h;subst h;simp
    ·rw[aFA] at h;obtain⟨j,hj,rfl⟩:=h;have:=CE t _ _ hj;simp only[aCC];omega
   ·rw[aFA] at h;obtain⟨j,hj,rfl⟩:=h;have:=CE (b::t) _ _ hj;simp only[aCC] at this⊢;omega
theorem xJ(b:UInt8)(d:Nat)(h:nY b=some d):b≠10/\b≠125/\b≠34/\b≠92/\d<16:=by
 unfold nY at h;have hn: ∀n:Nat,n<256->b.toNat≠n->b≠aET n:=fun n hn h1 e=>h1 (by rw[e];simp[UInt8.toNat_ofNat'];omega)
 split at h
 ·injection h with h;exact⟨hn 10 (by omega) (by omega),hn 125 (by omega) (by omega),hn 34 (by omega) (by omega),hn 92 (by omega) (by omega),by omega⟩
 ·split at h
  ·injection h with h;exact⟨hn 10 (by omega) (by omega),hn 125 (by omega) (by omega),hn 34 (by omega) (by omega),hn 92 (by omega) (by omega),by omega⟩
  ·split at h
   ·injection h with h;exact⟨hn 10 (by omega) (by omega),hn 125 (by omega) (by omega),hn 34 (by omega) (by omega),hn 92 (by omega) (by omega),by omega⟩
   ·cases h
theorem CX: ∀(l:List UInt8) (a n:Nat),lU a l=some n->∀b∈l,∃d,nY b=some d
 | [],_,_,_,b,hb=>by simp at hb
 |c::t,a,n,h,b,hb=>by
  simp only[lU] at h;cases hc:nY c with
  |none=>rw[hc] at h;simp at h
  |some d=>
   rw[hc] at h;rcases aCJ.1 hb with rfl|hb
   ·exact⟨d,hc⟩
   ·exact CX t _ _ h b hb
theorem zN(r:List UInt8)(h:(125:UInt8)∈r): ∃t,r=r.takeWhile (· !=125)++125::t:=by
 induction r with
 |nil=>simp at h
 |cons a r ih=>
  by_cases ha:a=125
  ·subst ha;exact⟨r,by simp⟩
  ·rcases aCJ.1 h with h|h
   ·exact absurd h.symm ha
   ·obtain⟨t,ht⟩:=ih h;refine⟨t,?_⟩;have:(a !=125)=true:=(by simp[ha]);rw[aDW,if_pos this,aCT,<-ht]
theorem VP(l:List UInt8)(c n:Nat)(h:oP l=some (c,n)):3<=n/\n<=l.length/\(10:UInt8)∉l.take n:=by
 unfold oP at h;split at h
 ·cases h
 ·rename_i a r;split at h
  ·cases h
  ·rename_i ha;split at h
   ·cases h
   ·rename_i hm;simp only at h;split at h
    ·cases h
    ·rename_i hl;split at h
     ·cases h
     ·rename_i m hx;split at h
      ·cases h
      ·injection h with h;injection h with h1 h2;subst h2;obtain⟨t,ht⟩:=zN r (by simpa using hm);have hlen:(r.takeWhile (· !=125)).length+1+t.length=r.length:=by have:=congrArg aDG ht;simp only[List.length_append,aCC] at this;omega
       refine⟨by omega,by simp only[aCC];omega,?_⟩;have e:(a::r).take ((r.takeWhile (· !=125)).length+2)=a::(r.takeWhile (· !=125)++[125]):=by
        rw[aDX];have h3: ∀D t:List UInt8,(D++125::t).take (D.length+1)=D++[125]:=fun D t=>by rw[List.take_append,aDY (by omega)];simp
        exact congrArg (List.cons a) ((congrArg (List.take _) ht).trans (h3 _ _))
       rw[e];have ha':a=123:=by simpa using ha
       subst ha';intro hmem;rcases aCJ.1 hmem with h|h
       ·exact absurd h (by decide)
       ·rcases List.mem_append.1 h with h|h
        ·obtain⟨d,hd⟩:=CX _ _ _ hx _ h;exact(xJ _ _ hd).1 rfl
        ·simp at h
theorem Ah(l:List UInt8)(c n:Nat)(h:JB l=some (c,n)):1<=n/\n<=l.length/\(10:UInt8)∉l.take n:=by
 unfold JB at h;split at h
 ·cases h
 ·rename_i a r;have one: ∀x:UInt8,x≠10->(10:UInt8)∉(x::r).take 1:=fun x hx hm=>(by simp at hm;exact hx hm.symm);split at h
  ·rename_i ha;injection h with h;injection h with h1 h2;subst h2 ha;exact⟨by omega,by simp,one _ (by decide)⟩
  ·split at h
   ·rename_i ha;injection h with h;injection h with h1 h2;subst h2 ha;exact⟨by omega,by simp,one _ (by decide)⟩
   ·split at h
    ·rename_i ha;injection h with h;injection h with h1 h2;subst h2
     exact⟨by omega,by simp,one _ (by rcases ha with rfl|rfl<;>decide)⟩
    ·split at h
     ·rename_i ha;subst ha;rw[aFA] at h;obtain⟨⟨c',n'⟩,hc,he⟩:=h;injection he with h1 h2;obtain⟨k1,k2,k3⟩:=VP r c' n' hc;simp only at h2;subst h2;refine⟨by omega,by simp only[aCC];omega,?_⟩;rw[aDX];intro hm;rcases aCJ.1 hm with h|h
      ·exact absurd h (by decide)
      ·exact k3 h
     ·cases h
theorem zZ: ∀(f g:Nat) (r:Bool) (l:List UInt8),l.length<=f->l.length<=g->kY f r l=kY g r l
 |0,0,_,_,_,_=>rfl
 |0,g+1,r,l,h,_=>by have:l=[]:=aDV (by omega);subst this;simp[kY]
 |f+1,0,r,l,_,h=>by have:l=[]:=aDV (by omega);subst this;simp[kY]
 |f+1,g+1,r,l,h1,h2=>by
  simp only[kY];split
  ·rfl
  ·rename_i a t;simp only[aCC] at h1 h2;have hd: ∀n (b:Bool),kY f b (t.drop n)=kY g b (t.drop n):=fun n b=>zZ f g b _ (by rw[aCB];omega) (by rw[aCB];omega)
   split
   ·rfl
   ·split
    ·rfl
    ·split
     ·split
      ·rw[hd]
      ·simp only[hd]
     ·have:=hd 0 r;rw[aDZ] at this;rw[this]
def bU(r:Bool)(l:List UInt8):Nat×Bool×Bool:=kY l.length r l
theorem yC(r:Bool):bU r []=(0,false,r):=rfl
theorem yD(r:Bool)(t:List UInt8):bU r (10::t)=(0,false,r):=by simp[bU,kY]
theorem zX(r:Bool)(t:List UInt8):bU r (34::t)=(1,true,r):=by simp[bU,kY]
theorem wW(r:Bool)(a:UInt8)(t:List UInt8)(h1:a≠10)(h2:a≠34)(h3:a≠92):bU r (a::t)=((bU r t).1+1,(bU r t).2):=by
 simp only[bU,aCC,kY,if_neg h1,if_neg h2,if_neg h3]
theorem EO(r:Bool)(t:List UInt8)(c n:Nat)(h:JB t=some (c,n)):bU r (92::t)=((bU r (t.drop n)).1+(1+n),(bU r (t.drop n)).2):=by
 have e:kY t.length r (t.drop n)=kY (t.drop n).length r (t.drop n):=zZ _ _ _ _ (by rw[aCB];omega) (aBT _);simp only[bU,aCC,kY,if_neg (by decide: ¬(92:UInt8)=10),if_neg (by decide: ¬(92:UInt8)=34),if_true,h,e]
theorem EP(r:Bool)(t:List UInt8)(h:JB t=none)(n:Nat)(hn:n=if t.isEmpty\/aF t 0=10 then 0 else(dec t).2):bU r (92::t)=((bU false (t.drop n)).1+(1+n),(bU false (t.drop n)).2):=by
 have e:kY t.length false (t.drop n)=kY (t.drop n).length false (t.drop n):=zZ _ _ _ _ (by rw[aCB];omega) (aBT _);simp only[bU,aCC,kY,if_neg (by decide: ¬(92:UInt8)=10),if_neg (by decide: ¬(92:UInt8)=34),if_true,h,<-hn,e]
theorem E9(l:List UInt8)(j:Nat)(h1:1<=j)(h2:j<(dec l).2): ∃b,l[j]? =some b/\b≠10/\b≠34/\b≠92:=by
 obtain⟨h3,h4⟩:=(kQ l).2.2 j h1 h2;have hb:l[j]? =some l[j]:=aBY h3;refine⟨l[j],hb,?_⟩;have:aF l j=l[j].toNat:=by unfold aF;rw[hb];rfl
 rw[this] at h4;refine⟨?_,?_,?_⟩<;>intro e<;>rw[e] at h4<;>simp at h4
theorem KH(r:Bool): ∀(n:Nat) (l:List UInt8),(∀j,j<n->∃b,l[j]? =some b/\b≠10/\b≠34/\b≠92)->bU r l=((bU r (l.drop n)).1+n,(bU r (l.drop n)).2)
 |0,l,_=>by simp
 |n+1,l,h=>by
  obtain⟨b,hb,h1,h2,h3⟩:=h 0 (by omega);cases l with
  |nil=>simp at hb
  |cons a t=>simp at hb;subst hb;rw[wW r a t h1 h2 h3,KH r n t (fun j hj=>by simpa using h (j+1) (by omega))];simp only[aFZ];rw[Nat.add_assoc]
theorem N9(r:Bool)(l:List UInt8)(h: ∃b,l[0]? =some b/\b≠10/\b≠34/\b≠92):bU r l=((bU r (l.drop (dec l).2)).1+(dec l).2,(bU r (l.drop (dec l).2)).2):=
 KH r _ l fun j hj=>by
  rcases aFU j with rfl|hj0
  ·exact h
  ·exact E9 l j hj0 hj
theorem Yv(n:Nat)(l:List UInt8)(hn:n<=l.length)(h:(10:UInt8)∉l.take n):(l.takeWhile (· !=10)).length=n+((l.drop n).takeWhile (· !=10)).length:=by
 induction n generalizing l with
 |zero=>simp
 |succ n ih=>
  cases l with
  |nil=>simp at hn
  |cons a t=>
   rw[aDX,aCJ,not_or] at h;have ha:(a !=10)=true:=by simp;exact fun e=>h.1 e.symm
   rw[aDW,if_pos ha,aCC,aFZ,ih t (by simpa using hn) h.2];omega
theorem zY: ∀(n:Nat) (l:List UInt8) (r:Bool),l.length=n->(bU r l).1<=l.length/\((bU r l).2.1=false->(bU r l).1=(l.takeWhile (· !=10)).length)/\((bU r l).2.1=true->1<=(bU r l).1):=by
 intro n
 induction n using Nat.strongRecOn with
 |_ n ih=>
  intro l r hl;cases l with
  |nil=>simp[yC]
  |cons a t=>
   simp only[aCC] at hl
   by_cases h1:a=10
   ·subst h1;rw[yD];simp
   ·by_cases h2:a=34
    ·subst h2;rw[zX];simp
    ·by_cases h3:a=92
     ·subst h3;have key: ∀(k:Nat) (b:Bool),k<=t.length->(10:UInt8)∉t.take k->bU r (92::t)=((bU b (t.drop k)).1+(1+k),(bU b (t.drop k)).2)->_:=fun k b hk hno he=>(by obtain⟨i1,i2,i3⟩:=ih (t.drop k).length (by rw[aCB];omega) (t.drop k) b rfl;have hw:=Yv k t hk hno;show(bU r (92::t)).1<=(92::t).length/\((bU r (92::t)).2.1=false->(bU r (92::t)).1=((92::t).takeWhile (· !=10)).length)/\((bU r (92::t)).2.1=true->1<=(bU r (92::t)).1);rw[he];rw[aCB] at i1;refine⟨by simp only[aCC];omega,fun hf=> ?_,fun _=>by simp only;omega⟩;rw[aDW,if_pos (by decide),aCC,hw,<-i2 hf];simp only;omega);cases he:JB t with
      |some x=>obtain⟨c,k⟩:=x;obtain⟨k1,k2,k3⟩:=Ah t c k he;exact key k r k2 k3 (EO r t c k he)
      |none=>
       refine key (if t.isEmpty\/aF t 0=10 then 0 else(dec t).2) false ?_ ?_ (EP r t he _ rfl)
       ·split
        ·omega
        ·rename_i h;exact xO t (by intro e;exact h (aDL (by rw[e];rfl)))
       ·split
        ·simp
        ·rename_i h;intro hm;obtain⟨j,hj,hjb⟩:=List.getElem_of_mem hm;rw[aCY] at hj;rw[List.getElem_take] at hjb;rcases aFU j with rfl|hj0
         ·refine h (Or.inr ?_);unfold aF;rw[aBY (by omega),hjb];rfl
         ·obtain⟨b,hb,hb1,_⟩:=E9 t j hj0 (by omega);rw[aBY (by omega),hjb] at hb;injection hb with hb;exact hb1 hb.symm
     ·obtain⟨i1,i2,i3⟩:=ih t.length (by omega) t r rfl;rw[wW r a t h1 h2 h3];refine⟨by simp only[aCC];omega,fun hf=> ?_,fun _=>by simp only;omega⟩;have ha:(a !=10)=true:=(by simp[h1]);rw[aDW,if_pos ha,aCC,<-i2 hf]
theorem kG{a b:UInt8}(h: [a,b].isPrefixOf l=true): ∃t,l=a::b::t:=by
 rcases l with _|⟨x,_|⟨y,t⟩⟩
 ·simp[aEF] at h
 ·simp[aEF] at h
 ·simp[aEF] at h;exact⟨t,by rw[h.1,h.2]⟩
theorem TP(p:Nat->Bool)(hl:l≠ [])(hp:p (dec l).1=true):1<=run p l:=by
 rw[run_go p hl hp];have:=(kQ l).1;omega
theorem one_le(l:List UInt8)(hl:l≠ []):1<=(gM l).2/\(gM l).2<=l.length/\1<=(gM l).1/\(gM l).1<=8:=by
 have h0:0<l.length:=aFO.2 hl;unfold gM;split
 ·rename_i h;exact⟨TP _ hl h,EX _ _ l rfl,by simp,by simp⟩
 split
 ·rename_i h;obtain⟨t,rfl⟩:=kG h;refine⟨?_,?_,by simp,by simp⟩
  ·simp
  ·exact(aGR _).length_le
 split
 ·rename_i h;obtain⟨t,rfl⟩:=kG h;split
  ·rename_i k hk;have:=CE _ _ _ hk;simp only[aFZ,aDZ,aCC] at this⊢;omega
  ·exact⟨h0,aBT _,by simp,by simp⟩
 split
 ·rename_i h;refine⟨TP _ hl (by unfold kR;rw[h];rfl),EX _ _ l rfl,?_,?_⟩<;>simp only<;>split<;>omega
 split
 ·rename_i h;refine⟨TP _ hl h,EX _ _ l rfl,?_,?_⟩<;>simp only<;>split<;>omega
 split
 ·have h1:=(zY _ (l.drop 1) true rfl).1;rw[aCB] at h1;have e:jL (l.drop 1)=bU true (l.drop 1):=rfl;rw[e];refine⟨by simp only;omega,by simp only;omega,?_,?_⟩<;>simp only<;>split<;>omega
 split
 ·rename_i h;refine⟨h,?_,by simp,by simp⟩;unfold qP;split
  ·rename_i h2;have: ∃a b t,l=a::b::t:=(by unfold Yt at h2;simp only[Bool.or_eq_true] at h2;rcases h2 with (h2|h2)|h2<;>(obtain⟨t,rfl⟩:=kG h2;exact⟨_,_,t,rfl⟩));obtain⟨a,b,t,rfl⟩:=this;simp
  ·split
   ·simp
   ·split<;>simp
 ·exact⟨(kQ l).1,xO l hl,by simp,by simp⟩
theorem QE: ∀(f g at_:Nat) (l:List UInt8),l.length<=f->l.length<=g->XF f at_ l=XF g at_ l
 |0,0,_,_,_,_=>rfl
 |0,g+1,_,l,h,_=>by have:l=[]:=aDV (by omega);subst this;simp[XF]
 |f+1,0,_,l,_,h=>by have:l=[]:=aDV (by omega);subst this;simp[XF]
 |f+1,g+1,at_,l,h1,h2=>by
  simp only[XF];cases hl:l.isEmpty with
  |true=>rfl
  |false=>have:=(one_le l (by intro e;rw[e] at hl;simp at hl)).1;rw[QE f g _ (l.drop (gM l).2) (by rw[aCB];omega) (by rw[aCB];omega)]
def dR(at_:Nat)(l:List UInt8):List (Nat×Nat×Nat):=XF l.length at_ l
theorem jK(at_:Nat):dR at_ []=[]:=rfl
theorem lS(at_:Nat)(hl:l≠ []):dR at_ l=((gM l).1,at_,(gM l).2)::dR (at_+(gM l).2) (l.drop (gM l).2):=by
 have h0:0<l.length:=aFO.2 hl;have h1:=(one_le l hl).1;unfold dR;obtain⟨f,hf⟩: ∃f,l.length=f+1:=⟨l.length-1,by omega⟩;rw[hf];simp only[XF];rw[if_neg (by simpa using hl),QE f (l.drop (gM l).2).length _ _ (by rw[aCB];omega) (aBT _)]
def mZ:Nat->List UInt8->Nat
 |0,_=>0
 |_+1,[]=>0
 |f+1,b::t=>if(nY b).isSome then mZ f t+1 else 0
theorem JM: ∀(f:Nat) (l:List UInt8),mZ f l<=f/\mZ f l<=l.length
 |0,_=>by simp[mZ]
 |_+1,[]=>by simp[mZ]
 |f+1,b::t=>by
  have:=JM f t;simp only[mZ];split
  ·simp only[aCC];omega
  ·simp
theorem JN: ∀(f:Nat) (l:List UInt8) (j:Nat),j<mZ f l->∃b d,l[j]? =some b/\nY b=some d
 |0,_,_,h=>by simp[mZ] at h
 |_+1,[],_,h=>by simp[mZ] at h
 |f+1,b::t,j,h=>by
  simp only[mZ] at h;split at h
  ·rename_i hb;cases j with
   |zero=>obtain⟨d,hd⟩:=Option.isSome_iff_exists.1 hb;exact⟨b,d,rfl,hd⟩
   |succ j=>obtain⟨b',d,h1,h2⟩:=JN f t j (by omega);exact⟨b',d,by simpa using h1,h2⟩
  ·omega
theorem ZW: ∀(f:Nat) (l:List UInt8),mZ f l<f->∀b,l[mZ f l]? =some b->nY b=none
 |0,_,h,_,_=>by omega
 |_+1,[],_,_,h=>by simp[mZ] at h
 |f+1,b::t,h,c,hc=>by
  simp only[mZ] at h hc;split at h
  ·rename_i hb;rw[if_pos hb] at hc;exact ZW f t (by omega) c (by simpa using hc)
  ·rename_i hb;rw[if_neg hb] at hc;simp at hc;subst hc;simpa using hb
theorem yP: ∀(l:List UInt8) (a n:Nat) (b:UInt8) (d:Nat),lU a l=some n->nY b=some d->lU a (l++[b])=some (n*16+d)
 | [],a,n,b,d,h,hb=>by simp only[lU] at h;injection h with h;subst h;simp[lU,hb]
 |c::t,a,n,b,d,h,hb=>by
  simp only[aCT,lU] at h⊢;cases hc:nY c with
  |none=>rw[hc] at h;simp at h
  |some x=>rw[hc] at h;exact yP t _ n b d h hb
theorem RX(f:Nat)(l:List UInt8): ∀j,j<=mZ f l->∃n,lU 0 (l.take j)=some n/\n<16^j
 |0,_=>⟨0,rfl,by simp⟩
 |j+1,h=>by
  obtain⟨n,hn,hl⟩:=RX f l j (by omega);obtain⟨b,d,hb,hd⟩:=JN f l j (by omega);refine⟨n*16+d,?_,?_⟩
  ·rw[List.take_add_one,hb];exact yP _ _ _ _ _ hn hd
  ·have:=(xJ b d hd).2.2.2.2;rw[Nat.pow_succ];omega
theorem Jz(l:List UInt8)(h:l[mZ 6 l]? =some 125):l.takeWhile (· !=125)=l.take (mZ 6 l):=by
 have key: ∀(m:Nat) (l:List UInt8),(∀j,j<m->∃b d,l[j]? =some b/\nY b=some d)->l[m]? =some 125->l.takeWhile (· !=125)=l.take m:=by
  intro m
  induction m with
  |zero=>
   intro l _ h;cases l with
   |nil=>simp at h
   |cons a t=>simp at h;subst h;simp
  |succ m ih=>
   intro l hj h;cases l with
   |nil=>simp at h
   |cons a t=>
    obtain⟨b,d,hb,hd⟩:=hj 0 (by omega);simp at hb;subst hb;have ha:(a !=125)=true:=(by simp;exact(xJ a d hd).2.1);rw[aDW,if_pos ha,aDX]
    congr 1
    exact ih t (fun j hj'=>by simpa using hj (j+1) (by omega)) (by simpa using h)
 exact key _ l (JN 6 l) h
theorem Ut(r:List UInt8)(n:Nat)(hn:lU 0 (r.take (mZ 6 r))=some n):
  oP (123::r)=if mZ 6 r=0\/r[mZ 6 r]? ≠some 125\/n>1114111\/(55296<=n/\n<=57343)then none else some (n,mZ 6 r+2):=by
 have hle:=JM 6 r
 by_cases hc:r[mZ 6 r]? =some 125
 ·have hw:=Jz r hc;have hm:(125:UInt8)∈r:=aDC hc;have hlen:(r.take (mZ 6 r)).length=mZ 6 r:=(by rw[aCY];omega);unfold oP;simp only[ne_eq,not_true_eq_false,if_false,hm,hw,hlen,hn]
  by_cases h0:mZ 6 r=0
  ·rw[if_pos (aDL (by omega)),if_pos (aDL h0)]
  ·rw[if_neg (by omega)]
   by_cases h1:n>1114111\/(55296<=n/\n<=57343)
   ·rw[if_pos h1,if_pos (Or.inr (Or.inr h1))]
   ·rw[if_neg h1,if_neg];rintro(h|h|h)
    ·exact h0 h
    ·exact h hc
    ·exact h1 h
 ·rw[if_pos (Or.inr (aDL hc))];cases hx:oP (123::r)with
  |none=>rfl
  |some x=>
   exfalso
   unfold oP at hx;simp only[ne_eq,not_true_eq_false,if_false] at hx;split at hx
   ·cases hx
   ·rename_i hm;split at hx
    ·cases hx
    ·rename_i hl;split at hx
     ·cases hx
     ·rename_i m hh;obtain⟨t,ht⟩:=zN r (by simpa using hm);have hall:=CX _ _ _ hh;generalize hD:r.takeWhile (· !=125)=D at *;have e:mZ 6 r=D.length:=by
       have key: ∀(f:Nat) (D t:List UInt8),(∀b∈D,∃d,nY b=some d)->D.length<=f->mZ f (D++125::t)=D.length:=by
        intro f
        induction f with
        |zero=>intro D t _ hl;simp[mZ];omega
        |succ f ih=>
         intro D t hd hl;cases D with
         |nil=>simp only[List.nil_append,mZ];rw[if_neg (by decide)];rfl
         |cons b D=>obtain⟨d,hd'⟩:=hd b (by simp);simp only[aCT,mZ];rw[if_pos (by rw[hd'];rfl),ih D t (fun x hx=>hd x (by simp[hx])) (by simpa using hl)];rfl
       rw[ht];exact key 6 D t hall (by omega)
      apply hc;rw[e,ht];simp
theorem VO(l:List UInt8)(h:l.head?≠some 123):oP l=none:=by
 unfold oP;cases l with
 |nil=>rfl
 |cons a r=>simp only;rw[if_pos];intro e;subst e;exact h rfl
end Go.Proofs.YtcjjfeephaddcaaGreatDoor.Lx
namespace Go.Proofs.YtcjjfeephaddcaaGreatDoor
open Go.RowKit
variable{w:World}
theorem j_: ∀c:Fin 256,(65<=c.val->c.val<=70->bits .or .u8 (c.val:Int) 32=(c.val:Int)+32)/\(97<=c.val->c.val<=102->bits .or .u8 (c.val:Int) 32=(c.val:Int)):=by decide+kernel
theorem ZV(c:UInt8)(d:Nat)(h:Lx.nY c=some d):(48<=c.toNat/\c.toNat<=57/\d=c.toNat-48)\/(∃v:Int,bits .or .u8 (c.toNat:Int) 32=v/\v=87+(d:Int)/\10<=d/\d<=15/\57<c.toNat/\c.toNat≠95):=by
 have h0:=j_ ⟨c.toNat,c.toNat_lt⟩;unfold Lx.nY at h;split at h
 ·injection h with h;exact .inl ⟨by omega,by omega,h.symm⟩
 ·split at h
  ·rename_i h2;injection h with h;exact .inr ⟨_,rfl,by rw[h0.2 h2.1 h2.2];show(c.toNat:Int)=_;omega,by omega,by omega,by omega,by omega⟩
  ·split at h
   ·rename_i h2;injection h with h;exact .inr ⟨_,rfl,by rw[h0.1 h2.1 h2.2];show(c.toNat:Int)+32=_;omega,by omega,by omega,by omega,by omega⟩
   ·cases h
theorem U8(c:Int)(w:World):Calls aBS 280 #[.int .u8 c] w fun e w'=>e=.returned (.int .u8 (bits .or .u8 c 32))/\w'=w:=by
 go_enter func280,ntmps280
 go_wp2
 go_ret;exact⟨rfl,rfl⟩
theorem UZ(l:Bs)(w:World)(h1:1<=l.length)(h6:l.length<=6)(hall: ∀b∈l,∃d,Lx.nY b=some d)(n:Nat)(hn:Lx.lU 0 l=some n):
  Calls aBS 271 #[.string ⟨l.toArray⟩,kZZ 16,kZZ 32] w fun e w'=>e=.returned (.tuple #[.int .u64 n,.nilIface])/\Below w.heap.size w w':=by
 have hne:(l== [])=false:=by cases l<;>simp at h1⊢
 have hcv:=Lib.run_convert_string_bytes (P:=aBS) w 9 192 5 ⟨l.toArray⟩ (u:=.string) underlying9 underlying192 underlying5;have hB: ∀j (h:j<l.length),(Lib.bytesWorld w 5 ⟨l.toArray⟩).cell? ⟨w.heap.size,j,none⟩=some (.int .u8 l[j].toNat):=fun j hj=>by have:=Lib.bytesWorld_cell w 5 ⟨l.toArray⟩ j (by rw[bG];exact hj);rw[this];simp[List.getD,hj]
 have hbw:Below w.heap.size w (Lib.bytesWorld w 5 ⟨l.toArray⟩):=Lib.bytesWorld_below _ _ _;have hsz:(⟨l.toArray⟩:ByteArray).size=l.length:=bG l;rw[hsz] at hcv;generalize Lib.bytesWorld w 5 ⟨l.toArray⟩=W1 at *;have hmv:IntKind.u64.wrap (IntKind.u64.wrap 4294967296-1)=4294967295:=by
  rw[aGS,aGS]
  decide
 have HB:=aB hB;have JF:=aB hall;have Hn:=aB hn;clear hB hall hn hsz
 go_enter func271,ntmps271
 go_wp2
 go_loop [12,13,101] (fun vu vn vi=> ∃(k acc:Nat) (a:Int),vu=.bool false/\vn=.int .u64 a/\vi=kZZ k/\k<=l.length/\0<=a/\a<16777216/\aC (a=(acc:Int)/\Lx.lU 0 (l.take k)=some acc)) (fun _ _ vi=>l.length-(intOf vi).toNat)
 case atStart=>exact⟨0,0,0,rfl,rfl,rfl,by omega,by omega,by omega,rfl,rfl⟩
 case round=>
  obtain⟨k,acc,a,rfl,rfl,rfl,hk,ha0,ha1,hh⟩:=hrel
  by_cases hkn:k<l.length
  ·have hc:=HB.o k hkn;obtain⟨d,hd⟩:=JF.o l[k] (aCR hkn);have hnx:aC (Lx.lU 0 (l.take (k+1))=some (acc*16+d)):=(by show _=_;rw[List.take_succ_eq_append_getElem hkn];exact Lx.yP _ _ _ _ _ hh.out.2 hd);have hacc2:a*16+(d:Int)<16777216:=by
    have hae:=hh.out.1;have h2: ∀(t:Bs) (a m:Nat),Lx.lU a t=some m->m<(a+1)*16^t.length:=by
     intro t
     induction t with
     |nil=>intro a m h;simp only[Lx.lU] at h;injection h with h;subst h;simp
     |cons b t ih=>
      intro a m h;simp only[Lx.lU] at h;cases hb:Lx.nY b with
      |none=>rw[hb] at h;simp at h
      |some x=>rw[hb] at h;have h3:=ih _ _ h;have h4:=(Lx.xJ b x hb).2.2.2.2;have h5:(a*16+x+1)*16^t.length<=(a+1)*16*16^t.length:=Nat.mul_le_mul_right _ (by omega);rw[aCC,Nat.pow_succ,Nat.mul_comm (16^t.length) 16,<-Nat.mul_assoc];omega
    have h3:=h2 _ _ _ hnx.out;have h4:(l.take (k+1)).length<=6:=(by rw[aCY];omega);have h5:16^(l.take (k+1)).length<=16^6:=Nat.pow_le_pow_right (by omega) h4;omega
   have ZC:=ZV l[k] d hd;have hd16':(d:Int)<16:=(by have:=(Lx.xJ _ _ hd).2.2.2.2;omega);have iq:=(Lx.xJ _ _ hd).2.2.2.2;have hc256:l[k].toNat<256:=l[k].toNat_lt;generalize l[k]=c at *;clear hd;have hlo:=U8 (c.toNat:Int);rcases ZC with ⟨g1,g2,g3⟩|⟨v,g1,g2,g3,g4,g5,g6⟩
   ·subst g3
    go_wp2
    go_round
    case rel=>exact⟨k+1,acc*16+(c.toNat-48),a*16+((c.toNat:Int)-48),rfl,by congr 1<;>omega,by go_num,by omega,by omega,by omega,by have:=hh.out.1;omega,hnx.out⟩
    case measure=>simp[intOf];omega
   ·rw[g1] at hlo;subst g2;have ZE:((c.toNat:Int)==95)=false:=by simp;omega
    clear g1 g6;go_wp2_with (go_at_call 280;refine(hlo _).mono ?_;rintro e w' ⟨rfl,rfl⟩)
    go_round
    case rel=>exact⟨k+1,acc*16+d,a*16+(d:Int),rfl,by congr 1<;>omega,by go_num,by omega,by omega,by omega,by have:=hh.out.1;omega,hnx.out⟩
    case measure=>simp[intOf];omega
  ·obtain rfl:k=l.length:=(by omega);have hfin:aC (a=(n:Int)):=by have h2:=hh.out.2;rw[aDF,Hn.o] at h2;injection h2 with h2;show _=_;rw[hh.out.1,h2]
   go_wp2
   go_ret2;exact⟨by rw[hfin.out];rfl,hbw⟩
def T8(w:World):Prop:=Lib.Utf8Tabs 4 5 w
theorem T8.below {w':World}(h:T8 w)(hb:Below w.heap.size w w'):T8 w':=by
 refine⟨fun c hc=> ?_,fun i hi=> ?_⟩
 ·have h1:=h.1 c hc;exact(hb.cell (p:=⟨4,c,none⟩) (aDA w ⟨4,c,none⟩ h1)).trans h1
 ·obtain⟨h1,h2⟩:=h.2 i hi;exact⟨(hb.cell (p:=⟨5,2*i,none⟩) (aDA w ⟨5,2*i,none⟩ h1)).trans h1,
   (hb.cell (p:=⟨5,2*i+1,none⟩) (aDA w ⟨5,2*i+1,none⟩ h2)).trans h2⟩
theorem oD(l:Bs)(hl:l≠ [])(w:World)(hT:T8 w):
  Calls aBS 155 #[.string ⟨l.toArray⟩] w fun e w'=>e=.returned (.tuple #[.int .i32 (dec l).1,kZZ (dec l).2])/\Below w.heap.size w w':=by
 have h:=Tryz.utf8_DecodeRuneInString ⟨l.toArray⟩ w hT;have h0:0<(⟨l.toArray⟩:ByteArray).size:=by rw[bG];exact aFO.2 hl
 have h1:=decodeGo_tail ⟨l.toArray⟩ 0 h0;rw[ByteArray.extract_zero_size,Ld,aDZ] at h1;rw[h1] at h;exact h
theorem qI(s:Bs)(i:Nat):Value.string ((⟨s.toArray⟩:ByteArray).extract i s.length)=.string ⟨(s.drop i).toArray⟩:=by
 have:=DL s i s.length;rw[aDF] at this;exact this
theorem KS(s:Bs)(F:Nat)(p:Nat->Bool)(hE: ∀args w,(callFunc F args).run aBS w=.ok (.enter F args) w)(hF: ∀(c:Nat) (w:World),Calls aBS F #[.int .i32 c] w fun e w'=>e=.returned (.bool (p c))/\w=w')(w:World)(hT:T8 w)(hl:s.length<=100000000):
  Calls aBS 187 #[.string ⟨s.toArray⟩,.func (.func F) #[] #[]] w fun e w'=>e=.returned (kZZ (Lx.run p s))/\Below w.heap.size w w':=by
 generalize hR:Lx.run p s=R;have HR:=aB hR;clear hR
 go_enter func187,ntmps187
 go_wp2_with fail
 go_loopw [5] (fun i wr=> ∃k:Nat,i=kZZ k/\k<=s.length/\Below w.heap.size w wr/\aC (R=k+Lx.run p (s.drop k))) (fun i _=>s.length-(intOf i).toNat)
 case atStart=>exact⟨0,rfl,aBZ _,aBU _ _,by show _=_;rw[<-HR.o];simp⟩
 case round=>
  obtain⟨k,rfl,hk,hb,H⟩:=hrel;have hbs:=hb.size
  by_cases hlt:k<s.length
  ·have hne:s.drop k≠ []:=(by intro e;have:=congrArg aDG e;simp at this;omega);have i1:=iZ k;have i2:(k:Int)<=(s.length:Int):=(by omega);have hd:=oD (s.drop k) hne wr (hT.below hb);have hsz:=kQ (s.drop k);have hle:=xO (s.drop k) hne;rw[aCB] at hle;rw[<-qI] at hd;have rZ:aC (p (dec (s.drop k)).1=true->R=(k+(dec (s.drop k)).2:Nat)+Lx.run p (s.drop (k+(dec (s.drop k)).2))):=fun hp=>(by rw[H.o,Lx.run_go p hne hp,List.drop_drop];omega);have fU:aC (p (dec (s.drop k)).1=false->R=k):=fun hp=>(by rw[H.o,Lx.xA p hp];rfl);have hF1:=hF (dec (s.drop k)).1;have h1:=hsz.1;generalize dec (s.drop k)=D at *;obtain⟨c,z⟩:=D;simp only at hd hF1 h1 hle rZ fU;clear hsz hne hF;cases hp:p c with
   |true=>
    rw[hp] at hF1;have Hg:=aB (rZ.o hp);clear rZ fU hp H;go_wp2_with fail;refine hd.mono ?_;clear hd;rintro e w2 ⟨rfl,hb2⟩;go_wp2_with fail;refine(hF1 _).mono ?_;clear hF1;rintro e w' ⟨rfl,rfl⟩;go_wp2_with fail
    go_roundw
    case rel=>exact⟨k+z,by go_num,by omega,hb.trans (hb2.mono hbs),Hg.o⟩
    case measure=>simp[intOf];omega
   |false=>rw[hp] at hF1;have Hs:=aB (fU.o hp);clear rZ fU hp H;go_wp2_with fail;refine hd.mono ?_;clear hd;rintro e w2 ⟨rfl,hb2⟩;go_wp2_with fail;refine(hF1 _).mono ?_;clear hF1;rintro e w' ⟨rfl,rfl⟩;go_wp2_with fail;go_ret;exact⟨by rw[Hs.o];rfl,hb.trans (hb2.mono hbs)⟩
  ·obtain rfl:k=s.length:=(by omega);have Hs:aC (R=s.length):=(by show _=_;rw[H.o,List.drop_length];rfl);go_wp2_with fail;go_ret;exact⟨by rw[Hs.o];rfl,hb⟩
open Go.Lib (itoa decDigits_length)
def lN(w:World)(m:Int):Prop:=w.cell? ⟨2,0,none⟩=some (kZZ m)
theorem lN.lt {m:Int}(h:lN w m):2<w.heap.size:=aDA w ⟨2,0,none⟩ h
theorem lN.below {w':World}{B:Nat}{m:Int}(h:lN w m)(hb:Below B w w')(hB:2<B):lN w' m:=(hb.cell (p:=⟨2,0,none⟩) hB).trans h
end Go.Proofs.YtcjjfeephaddcaaGreatDoor
namespace Go.Proofs.YtcjjfeephaddcaaGreatDoor.Lx
open Go.Lib
theorem n_(c:UInt8)(s:List UInt8)(i:Nat):occAt s [c] i=true↔s[i]? =some c:=by
 unfold occAt;have h0:(s.drop i)[0]? =s[i]? :=by rw[List.getElem?_drop];rfl
 rcases h:s.drop i with _|⟨a,t⟩
 ·rw[h] at h0;simp only[List.getElem?_nil] at h0;rw[<-h0];simp[aEF]
 ·rw[h] at h0;simp only[List.getElem?_cons_zero] at h0;rw[<-h0];simp[aEF];exact⟨fun h=>h.symm,fun h=>h.symm⟩
theorem QD(c:UInt8): ∀(l:List UInt8) (k:Nat),k<(l.takeWhile (· !=c)).length->∃b,l[k]? =some b/\b≠c
 | [],k,h=>by simp at h
 |a::t,k,h=>by
  by_cases ha:a=c
  ·subst ha;simp at h
  ·have h1:(a !=c)=true:=(by simp[ha]);rw[aDW,if_pos h1,aCC] at h;cases k with
   |zero=>exact⟨a,rfl,ha⟩
   |succ k=>obtain⟨b,hb,hn⟩:=QD c t k (by omega);exact⟨b,by simpa using hb,hn⟩
theorem qo(c:UInt8): ∀(l:List UInt8),c∈l->l[(l.takeWhile (· !=c)).length]? =some c
 | [],h=>by simp at h
 |a::t,h=>by
  by_cases ha:a=c
  ·subst ha;simp
  ·have h1:(a !=c)=true:=(by simp[ha]);rw[aDW,if_pos h1,aCC];have:=qo c t ((aCJ.1 h).resolve_left fun e=>ha e.symm);simpa using this
theorem Yu(c:UInt8)(l:List UInt8):l.take (l.takeWhile (· !=c)).length=l.takeWhile (· !=c):=by
 conv=>lhs;rw[<-List.takeWhile_append_dropWhile (p:=(· !=c)) (l:=l)]
 rw[List.take_append_of_le_length (by simp),aDY (by simp)]
theorem Oz(c:UInt8): ∀(l:List UInt8),c∉l->l.takeWhile (· !=c)=l
 | [],_=>rfl
 |a::t,h=>by
  rw[aCJ,not_or] at h;have h1:(a !=c)=true:=by simp;exact fun e=>h.1 e.symm
  rw[aDW,if_pos h1,Oz c t h.2]
theorem F3(c:UInt8)(l:List UInt8):(cut l [c]).1=l.takeWhile (· !=c)/\(cut l [c]).2.2=decide (c∈l):=by
 by_cases h:c∈l
 ·have hlen:(l.takeWhile (· !=c)).length<=l.length:=(aGR _).length_le;have hi:index l [c]=((l.takeWhile (· !=c)).length:Nat):=index_first hlen ((n_ c _ _).2 (qo c l h)) fun j hj=>by
   cases ho:occAt l [c] j with
   |false=>rfl
   |true=>obtain⟨b,hb,hn⟩:=QD c l j hj;rw[(n_ c _ _).1 ho] at hb;injection hb with hb;exact absurd hb.symm hn
  unfold cut;rw[hi,if_pos (by omega),decide_eq_true h];exact⟨Yu c l,rfl⟩
 ·have hi:index l [c]= -1:=index_none fun j _=>by
   cases ho:occAt l [c] j with
   |false=>rfl
   |true=>exact absurd (aDC ((n_ c _ _).1 ho)) h
  have hw:l.takeWhile (· !=c)=l:=Oz c l h;unfold cut;rw[hi,hw,decide_eq_false h];exact⟨rfl,rfl⟩
def OX:List UInt8:=[48,49,50,51,52,53,54,55,56,57,97,98,99,100,101,102,65,66,67,68,69,70]
theorem Sz: ∀i:Fin 256,OX.contains (aET i.val)=(nY (aET i.val)).isSome:=by decide+kernel
theorem ZT(b:UInt8):OX.contains b=(nY b).isSome:=by
 have:=Sz ⟨b.toNat,b.toNat_lt⟩;simpa using this
theorem drop_nil(l cs:List UInt8)(h:l.dropWhile (cs.contains ·)=[]): ∀b∈l,cs.contains b=true:=by
 induction l with
 |nil=>intro b hb;simp at hb
 |cons a t ih=>
  rw[List.dropWhile_cons] at h;split at h
  ·rename_i ha;intro b hb;rcases aCJ.1 hb with rfl|hb
   ·exact ha
   ·exact ih h b hb
  ·cases h
theorem Lb(l cs:List UInt8): ∀a t,l.dropWhile (cs.contains ·)=a::t->cs.contains a=false:=by
 induction l with
 |nil=>intro a t h;simp at h
 |cons x l ih=>
  intro a t h;rw[List.dropWhile_cons] at h;split at h
  ·exact ih a t h
  ·rename_i hx;injection h with h1 _;subst h1;simpa using hx
theorem Pb(l cs:List UInt8)(h:trimS l cs=[]): ∀b∈l,cs.contains b=true:=by
 unfold trimS trimLeftS at h;have h1:=drop_nil _ _ h;unfold trimRightS at h1;cases hd:l.reverse.dropWhile (cs.contains ·)with
 |nil=>intro b hb;exact drop_nil _ _ hd b (List.mem_reverse.2 hb)
 |cons a t=>have h2:=Lb _ _ a t hd;rw[hd] at h1;have h3:=h1 a (List.mem_reverse.2 (by simp));rw[h2] at h3;cases h3
theorem Pf(l cs:List UInt8)(h: ∀b∈l,cs.contains b=true):trimS l cs=[]:=by
 have h1:trimRightS l cs=l.take 0:=trimRightS_take _ _ 0 (aBZ _) (fun j b _ hb=>h b (aDC hb)) (fun b h=>by omega);unfold trimS;rw[h1];rfl
theorem IG: ∀(l:List UInt8) (a:Nat),(∀b∈l,∃d,nY b=some d)->∃n,lU a l=some n
 | [],a,_=>⟨a,rfl⟩
 |b::t,a,h=>by
  obtain⟨d,hd⟩:=h b (by simp);obtain⟨n,hn⟩:=IG t (a*16+d) fun x hx=>h x (by simp[hx])
  exact⟨n,by simp only[lU,hd];exact hn⟩
theorem ik: ∀(t:List UInt8) (a m:Nat),lU a t=some m->m<(a+1)*16^t.length:=by
 intro t
 induction t with
 |nil=>intro a m h;simp only[lU] at h;injection h with h;subst h;simp
 |cons b t ih=>
  intro a m h;simp only[lU] at h;cases hb:nY b with
  |none=>rw[hb] at h;simp at h
  |some x=>rw[hb] at h;have h3:=ih _ _ h;have h4:=(xJ b x hb).2.2.2.2;have h5:(a*16+x+1)*16^t.length<=(a+1)*16*16^t.length:=Nat.mul_le_mul_right _ (by omega);rw[aCC,Nat.pow_succ,Nat.mul_comm (16^t.length) 16,<-Nat.mul_assoc];omega
theorem ig(D:List UInt8):(trimS D OX=[]/\(∀b∈D,∃d,nY b=some d)/\∃n,lU 0 D=some n)\/(trimS D OX≠ []/\lU 0 D=none):=by
 by_cases h:trimS D OX=[]
 ·have h1: ∀b∈D,∃d,nY b=some d:=fun b hb=>(by have:=Pb D OX h b hb;rw[ZT] at this;exact Option.isSome_iff_exists.1 this);exact .inl ⟨h,h1,IG D 0 h1⟩
 ·refine .inr ⟨h,?_⟩;cases hn:lU 0 D with
  |none=>rfl
  |some n=>
   exfalso
   apply h;refine Pf D OX fun b hb=> ?_
   obtain⟨d,hd⟩:=CX D 0 n hn b hb;rw[ZT,hd];rfl
theorem ax(b:UInt8):(decide (0<=indexByte signs b))=signs.contains b:=by
 have h: ∀i:Fin 256,(decide (0<=indexByte signs (aET i.val)))=signs.contains (aET i.val):=by decide+kernel
 have:=h ⟨b.toNat,b.toNat_lt⟩;simpa using this
end Go.Proofs.YtcjjfeephaddcaaGreatDoor.Lx
namespace Go.Proofs.YtcjjfeephaddcaaGreatDoor
open Go.RowKit
theorem VA(l:Bs)(w:World)(h1:1<=l.length)(h6:l.length<=6)(hall: ∀b∈l,∃d,Lx.nY b=some d)(n:Nat)(hn:Lx.lU 0 l=some n)(hlt:(n:Int)<16777216):
  Calls aBS 265 #[.string ⟨l.toArray⟩,kZZ 16,kZZ 32] w fun e w'=>e=.returned (.tuple #[kZZ n,.nilIface])/\Below w.heap.size w w':=by
 have hU:=UZ l w h1 h6 hall n hn;have hne:(l== [])=false:=by cases l<;>simp at h1⊢
 have h0:0<l.length:=by omega
 obtain⟨d,hd⟩:=hall l[0] (aCR h0);have hw:=ZV l[0] d hd;have f1:((((⟨l.toArray⟩:ByteArray)[0]'(by rw[bG];exact h0)).toNat:Int)==43)=false:=by rw[show((⟨l.toArray⟩:ByteArray)[0]'(by rw[bG];exact h0)).toNat=l[0].toNat from rfl];simp;rcases hw with h|⟨v,_,_,_,_,h,_⟩<;>omega
 have f2:((((⟨l.toArray⟩:ByteArray)[0]'(by rw[bG];exact h0)).toNat:Int)==45)=false:=by rw[show((⟨l.toArray⟩:ByteArray)[0]'(by rw[bG];exact h0)).toNat=l[0].toNat from rfl];simp;rcases hw with h|⟨v,_,_,_,_,h,_⟩<;>omega
 have hcv:IntKind.u64.wrap 2147483648=2147483648:=by rw[aGS];decide
 obtain⟨a,ha⟩: ∃a:Int,a=(n:Int):=⟨_,rfl⟩;have a0:0<=a:=by omega
 have a1:a<16777216:=by omega
 rw[<-ha] at hU⊢;clear hw hd hall hn hlt ha
 go_enter func265,ntmps265
 go_wp2_with fail;refine hU.mono ?_;clear hU;rintro e w' ⟨rfl,hb⟩;go_wp2_with fail;go_ret2;exact⟨rfl,hb⟩
theorem ZU(l:Bs)(w:World)(h1:1<=l.length)(h6:l.length<=6)(hall: ∀b∈l,∃d,Lx.nY b=some d)(n:Nat)(hn:Lx.lU 0 l=some n)(hlt:(n:Int)<16777216):
  Calls aBS 252 #[.string ⟨l.toArray⟩,kZZ 16,kZZ 32] w fun e w'=>e=.returned (.tuple #[kZZ n,.nilIface])/\Below w.heap.size w w':=by
 have hU:=VA l w h1 h6 hall n hn hlt;obtain⟨a,ha⟩: ∃a:Int,a=(n:Int):=⟨_,rfl⟩;rw[<-ha] at hU⊢;clear hall hn hlt ha
 go_enter func252,ntmps252
 go_wp2_with fail;refine hU.mono ?_;clear hU;rintro e w' ⟨rfl,hb⟩;go_wp2_with fail;go_ret2;exact⟨rfl,hb⟩
def aBA:Option (Nat×Nat)->Value
 |some (c,n)=>.tuple #[.int .i32 c,kZZ n]
 |none=>.tuple #[.int .i32 0,kZZ 0]
theorem X4(s:Bs)(w:World)(hs:s.length<=100000000):Calls aBS 251 #[.string ⟨s.toArray⟩,.string ⟨#[48,49,50,51,52,53,54,55,56,57,97,98,99,100,101,102,65,66,67,68,69,70]⟩] w fun e w'=>e=.returned (.string ⟨(Lib.trimS s Lx.OX).toArray⟩)/\Below w.heap.size w w':=
 Any.strings_Trim_laid Tryz.lays160 (by kernel_rfl) ⟨s.toArray⟩ ⟨#[48,49,50,51,52,53,54,55,56,57,97,98,99,100,101,102,65,66,67,68,69,70]⟩ w (by rw[bG];omega) (by decide) (ascii_of_all (by decide))
theorem yS(c:UInt8)(s:Bs)(m:Int)(w:World)(hM:lN w m)(hs:s.length<=100000000):Calls aBS 188 #[.string ⟨s.toArray⟩,.string ⟨#[c]⟩] w fun e w'=>e=.returned (.tuple #[.string ⟨(s.takeWhile (· !=c)).toArray⟩,.string ⟨(Lib.cut s [c]).2.1.toArray⟩,.bool (decide (c∈s))])/\∃n,w'=w.drewN n:=by
 have h:=Tryz.strings_Cut ⟨s.toArray⟩ ⟨#[c]⟩ m w (by rw[bG];omega) hM;have h1:=(Lx.F3 c s).1;have h2:=(Lx.F3 c s).2;rw[show(⟨s.toArray⟩:ByteArray).data.toList=s from rfl,show(⟨#[c]⟩:ByteArray).data.toList=[c] from rfl,h1,h2] at h;exact h
theorem fQ(s p:Bs)(w:World):Calls aBS 181 #[.string ⟨s.toArray⟩,.string ⟨p.toArray⟩] w fun e w'=>e=.returned (.bool (p.isPrefixOf s))/\w'=w:=
 Tryz.strings_HasPrefix ⟨s.toArray⟩ ⟨p.toArray⟩ w
theorem zu(D:Bs)(n:Nat)(h:Lx.lU 0 D=some n)(h6:D.length<=6):(n:Int)<16777216:=by
 have hn:=Lx.ik D 0 n h;have h5:16^D.length<=16^6:=Nat.pow_le_pow_right (by omega) h6;have h7:(16:Nat)^6=16777216:=by decide
 rw[h7] at h5;omega
theorem Lu(l:Bs)(m:Int)(w:World)(hM:lN w m)(hl:l.length<=100000000):
  Calls aBS 243 #[.string ⟨l.toArray⟩] w fun e w'=>e=.returned (aBA (Lx.oP l))/\Below w.heap.size w w':=by
 have hP:Calls aBS 181 #[.string ⟨l.toArray⟩,.string ⟨#[123]⟩] w fun e w'=>e=.returned (.bool ([123].isPrefixOf l))/\w'=w:=fQ l [123] w
 generalize hC:Lx.oP l=C;have HC:=aB hC;clear hC;cases hp: [(123:UInt8)].isPrefixOf l with
 |false=>
  have hN:aC (C=none):=by
   show _=_;rw[<-HC.o];refine Lx.VO l fun h=> ?_
   cases l with
   |nil=>simp at h
   |cons a t=>simp at h;subst h;simp[aEF] at hp
  rw[hp] at hP;clear hp HC
  go_enter func243,ntmps243
  go_wp2_with fail;refine hP.mono ?_;rintro e w' ⟨rfl,rfl⟩;go_wp2_with fail;go_ret2;rw[hN.out];exact⟨rfl,aBU _ _⟩
 |true=>
  rw[hp] at hP;obtain⟨r,rfl⟩: ∃r,l=123::r:=by
   cases l with
   |nil=>simp[aEF] at hp
   |cons a t=>simp[aEF] at hp;exact⟨t,by rw[hp]⟩
  have hlen:(123::r).length=r.length+1:=rfl;have hcut:=yS 125 r m w hM (by omega);have hex:=qI (123::r) 1;rw[show List.drop 1 (123::r)=r from rfl] at hex;rw[<-hex] at hcut;have hge:1<=(123::r).length:=(by omega);have Hlen:=aB hlen;have hdl:(r.takeWhile (· !=125)).length<=r.length:=(aGR _).length_le;have HCe:aC (C=if¬((125:UInt8)∈r)then none else if(r.takeWhile (· !=125)).length<1\/6<(r.takeWhile (· !=125)).length then none else match Lx.lU 0 (r.takeWhile (· !=125))with|none=>none|some n=>if n>1114111\/(55296<=n/\n<=57343)then none else some (n,(r.takeWhile (· !=125)).length+2)):=(by show _=_;rw[<-HC.o];rfl);have IY:=Lx.ig (r.takeWhile (· !=125));have htr:=fun w=>X4 (r.takeWhile (· !=125)) w (by omega)
  have hpi:=fun w=>ZU (r.takeWhile (· !=125)) w
  generalize hL:(123::r:Bs)=L at *;generalize r.takeWhile (· !=125)=D at *;generalize(Lib.cut r [125]).2.1=Y at *;have Hex:=aB hex;clear hp hex HC hlen
  by_cases hf:(125:UInt8)∈r
  ·have H1:=HCe.o;rw[if_neg (by simpa using hf)] at H1;rw[decide_eq_true hf] at hcut;clear HCe hf
   by_cases h1:D.length<1
   ·have hN:aC (C=none):=(by show _=_;rw[H1,if_pos (.inl h1)]);have h1':D.length=0:=(by omega);clear H1 IY htr hpi
    go_enter func243,ntmps243
    go_wp2_with fail;refine hP.mono ?_;rintro e w' ⟨rfl,rfl⟩;go_wp2_with fail;refine hcut.mono ?_;rintro e w2 ⟨rfl,n,rfl⟩;go_wp2_with fail;go_ret2;rw[hN.out];exact⟨rfl,below_drewN (aBU _ _) n⟩
   ·by_cases h6:6<D.length
    ·have hN:aC (C=none):=(by show _=_;rw[H1,if_pos (.inr h6)]);clear H1 IY htr hpi
     go_enter func243,ntmps243
     go_wp2_with fail;refine hP.mono ?_;rintro e w' ⟨rfl,rfl⟩;go_wp2_with fail;refine hcut.mono ?_;rintro e w2 ⟨rfl,n,rfl⟩;go_wp2_with fail;go_ret2;rw[hN.out];exact⟨rfl,below_drewN (aBU _ _) n⟩
    ·rw[if_neg (by omega)] at H1;rcases IY with ⟨g1,g2,n,g3⟩|⟨g1,g2⟩
     ·rw[g3] at H1;have hnI:(n:Int)<16777216:=zu D n g3 (by omega);have hi:=fun w=>hpi w (by omega) (by omega) g2 n g3 hnI
      have H2:aC (C=if n>1114111\/(55296<=n/\n<=57343)then none else some (n,D.length+2)):=H1;rw[g1] at htr;clear H1 hpi g1 g2 g3;obtain⟨a,ha⟩: ∃a:Int,a=(n:Int):=⟨_,rfl⟩;rw[<-ha] at hi hnI;have a0:0<=a:=(by omega);have Ha:=aB ha;have hcase:(1114111<a)\/(¬1114111<a/\55296<=a/\a<=57343)\/(¬1114111<a/\¬55296<=a)\/(¬1114111<a/\55296<=a/\¬a<=57343):=(by omega);clear ha;rcases hcase with q|⟨q,q2,q3⟩|⟨q,q2⟩|⟨q,q2,q3⟩
      ·have hN:aC (C=none):=(by show _=_;rw[H2.o,if_pos (by have:=Ha.o;omega)]);clear H2
       go_enter func243,ntmps243
       go_wp2_with fail;refine hP.mono ?_;rintro e w' ⟨rfl,rfl⟩;go_wp2_with fail;refine hcut.mono ?_;rintro e w2 ⟨rfl,k,rfl⟩;go_wp2_with fail;refine(htr _).mono ?_;rintro e w3 ⟨rfl,hb3⟩;go_wp2_with fail;refine(hi _).mono ?_;rintro e w4 ⟨rfl,hb4⟩;go_wp2_with fail;go_ret2;rw[hN.out];exact⟨rfl,(below_drewN (aBU _ _) k).trans (hb3.trans (hb4.mono hb3.size))⟩
      ·have hN:aC (C=none):=(by show _=_;rw[H2.o,if_pos (by have:=Ha.o;omega)]);clear H2
       go_enter func243,ntmps243
       go_wp2_with fail;refine hP.mono ?_;rintro e w' ⟨rfl,rfl⟩;go_wp2_with fail;refine hcut.mono ?_;rintro e w2 ⟨rfl,k,rfl⟩;go_wp2_with fail;refine(htr _).mono ?_;rintro e w3 ⟨rfl,hb3⟩;go_wp2_with fail;refine(hi _).mono ?_;rintro e w4 ⟨rfl,hb4⟩;go_wp2_with fail;go_ret2;rw[hN.out];exact⟨rfl,(below_drewN (aBU _ _) k).trans (hb3.trans (hb4.mono hb3.size))⟩
      all_goals
       have hN:aC (C=some (n,D.length+2)):=(by show _=_;rw[H2.o,if_neg (by have:=Ha.o;omega)]);clear H2
       go_enter func243,ntmps243
       go_wp2_with fail;refine hP.mono ?_;rintro e w' ⟨rfl,rfl⟩;go_wp2_with fail;refine hcut.mono ?_;rintro e w2 ⟨rfl,k,rfl⟩;go_wp2_with fail;refine(htr _).mono ?_;rintro e w3 ⟨rfl,hb3⟩;go_wp2_with fail;refine(hi _).mono ?_;rintro e w4 ⟨rfl,hb4⟩;go_wp2_with fail;go_ret2;rw[hN.out];exact⟨by show _=Ending.returned (.tuple #[.int .i32 (n:Int),kZZ ((D.length+2:Nat):Int)]);rw[<-Ha.o];rfl,(below_drewN (aBU _ _) k).trans (hb3.trans (hb4.mono hb3.size))⟩
     ·rw[g2] at H1;have hN:aC (C=none):=H1;have g1':(Lib.trimS D Lx.OX== [])=false:=by simpa using g1
      clear H1 hpi g1 g2;generalize Lib.trimS D Lx.OX=TT at *
      go_enter func243,ntmps243
      go_wp2_with fail;refine hP.mono ?_;rintro e w' ⟨rfl,rfl⟩;go_wp2_with fail;refine hcut.mono ?_;rintro e w2 ⟨rfl,k,rfl⟩;go_wp2_with fail;refine(htr _).mono ?_;rintro e w3 ⟨rfl,hb3⟩;go_wp2_with fail;go_ret2;rw[hN.out];exact⟨rfl,(below_drewN (aBU _ _) k).trans hb3⟩
  ·have hN:aC (C=none):=(by show _=_;rw[HCe.o,if_pos (by simpa using hf)]);rw[decide_eq_false hf] at hcut;clear HCe hf IY htr hpi
   go_enter func243,ntmps243
   go_wp2_with fail;refine hP.mono ?_;rintro e w' ⟨rfl,rfl⟩;go_wp2_with fail;refine hcut.mono ?_;rintro e w2 ⟨rfl,n,rfl⟩;go_wp2_with fail;go_ret2;rw[hN.out];exact⟨rfl,below_drewN (aBU _ _) n⟩
end Go.Proofs.YtcjjfeephaddcaaGreatDoor
