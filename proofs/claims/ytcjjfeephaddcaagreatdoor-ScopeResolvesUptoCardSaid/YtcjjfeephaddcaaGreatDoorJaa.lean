import Derived.Lib.RuneBytes
import Derived.Lib.Strings
set_option linter.all false
open List renaming length_append->aBW,getElem?_eq_getElem->aBY,length_drop->aCB,length_cons->aCC,length_map->aCE,append_nil->aCO,cons_append->aCT,nil_append->aCU,length_take->aCY,drop_eq_getElem_cons->aDE,map_cons->aDH,takeWhile_cons->aDW,take_zero->aEP,getElem?_eq_none->aEX
open Nat renaming le_refl->aBT,zero_le->aBZ
namespace Go.Proofs.YtcjjfeephaddcaaGreatDoor
variable{p:Prop}
def aC(p:Prop):Prop:=p
theorem aB(h:p):aC p:=h
theorem aC.o (h:aC p):p:=h
theorem aC.out (h:aC p):p:=h
end Go.Proofs.YtcjjfeephaddcaaGreatDoor
namespace Go.Proofs.YtcjjfeephaddcaaGreatDoor.Tr
variable{c i:Nat}
inductive PT where
 |leaf (tok:Nat) (text:List UInt8) (at_:Nat)
 |gap (text:List UInt8) (at_:Nat) (deep:Bool)
 |branch (kind:Nat) (at_:Nat) (kids:List PT)
abbrev St:=List PT×Nat
def thn(st:St)(f:Nat->St):St:=(st.1++(f st.2).1,(f st.2).2)
def aS(r:PT×Nat):St:=([r.1],r.2)
def PT.from_:PT->Nat
 | .leaf _ _ a=>a
 | .gap _ a _=>a
 | .branch _ a _=>a
def dY(t:Nat×Nat×Nat):Bool:=t.1==1||t.1==2
def aH(T:List (Nat×Nat×Nat))(i:Nat):Nat:=i+((T.drop i).takeWhile dY).length
def bR(T:List (Nat×Nat×Nat))(n:Nat):Nat:=(T[n]?.map (·.1)).getD 0
def jI(s:List UInt8)(t:Nat×Nat×Nat):List UInt8:=(s.drop t.2.1).take t.2.2
def gX(s:List UInt8)(T:List (Nat×Nat×Nat))(n:Nat):List UInt8:=(T[n]?.map (jI s)).getD []
section
variable(s:List UInt8)(T:List (Nat×Nat×Nat))(b:Nat)
def dD(i:Nat):Nat:=(T[i]?.map (·.2.1)).getD s.length
def bC(i:Nat):Nat:=dD s T i-b
def aW(l:List (List UInt8))(i:Nat):Bool:=(bR T (aH T i)==4||bR T (aH T i)==7)&&l.contains (gX s T (aH T i))
def gY(t:Nat×Nat×Nat):PT:=.leaf t.1 (jI s t) (t.2.1-b)
def toP(i:Nat):Nat:=min (aH T i+1) T.length
def aK(i:Nat):St:=(((T.drop i).take (toP T i-i)).map (gY s b),toP T i)
def nU(w:List UInt8)(i:Nat):St:=([.gap w (bC s T b i) false],i)
def aN(w:List UInt8)(i:Nat):St:=if aW s T [w] i then aK s T b i else nU s T b w i
def lY:List UInt8:=[110,97,109,101]
def jN:List UInt8:=[101,120,112,114,101,115,115,105,111,110]
def aQ(i:Nat):St:=if bR T (aH T i)==3 then aK s T b i else nU s T b lY i
def dK(one:Nat->St):Nat->St->St
 |0,st=>st
 |f+1,st=>if aW s T [[44]] st.2 then dK one f (thn (thn st (aK s T b)) one)else st
def nC(kind i:Nat)(st:St):PT×Nat:=(.branch kind (bC s T b i) st.1,st.2)
def bB(i:Nat):PT×Nat:=
 nC s T b 6 i (thn (if aW s T [[41]] (aN s T b [40] i).2 then aN s T b [40] i else dK s T b (aQ s T b) (T.length+1) (thn (aN s T b [40] i) (aQ s T b))) (aN s T b [41]))
def eH(e:Nat->St)(kind:Nat)(shut:List UInt8)(i:Nat):PT×Nat:=
 nC s T b kind i (thn (if aW s T [shut] (aK s T b i).2 then aK s T b i else dK s T b e (T.length+1) (thn (aK s T b i) e)) (aN s T b shut))
def wC:List UInt8:=[116,114,117,101]
def qN:List UInt8:=[102,97,108,115,101]
def eT(k:Nat)(t:List UInt8):Nat:=
 if k=4/\(t=wC\/t=qN)then 17 else if k=7/\t=[63] then 19 else if k=5 then 15 else if k=6 then 16 else if k=3 then 18 else 0
def fD(e:Nat->St)(i:Nat):PT×Nat:=
 if 0<eT (bR T (aH T i)) (gX s T (aH T i))then nC s T b (eT (bR T (aH T i)) (gX s T (aH T i))) i (aK s T b i)
 else if aW s T [[40]] i then nC s T b 14 i (thn (thn (aK s T b i) e) (aN s T b [41]))
 else if aW s T [[91]] i then eH s T b e 13 [93] i
 else(.gap jN (bC s T b i) false,i)
def gJ(e:Nat->St):Nat->PT×Nat->PT×Nat
 |0,r=>r
 |f+1,r=>if aW s T [[40]] r.2 then gJ e f (.branch 11 r.1.from_ [r.1,(eH s T b e 12 [41] r.2).1],(eH s T b e 12 [41] r.2).2)else r
def oG(e:Nat->St)(i:Nat):PT×Nat:=gJ s T b e (T.length+1) (fD s T b e i)
def iA(one:Nat->PT×Nat)(r:PT×Nat):PT×Nat:=
 (.branch 10 r.1.from_ (r.1::(thn (aK s T b r.2) (fun i=>aS (one i))).1),(thn (aK s T b r.2) (fun i=>aS (one i))).2)
def iX(one:Nat->PT×Nat)(signs:List (List UInt8)):Nat->PT×Nat->PT×Nat
 |0,r=>r
 |f+1,r=>if aW s T signs r.2 then iX one signs f (iA s T b one r)else r
def rowP(one:Nat->PT×Nat)(signs:List (List UInt8))(i:Nat):PT×Nat:=iX s T b one signs (T.length+1) (one i)
def xB(e:Nat->St)(i:Nat):PT×Nat:=rowP s T b (oG s T b e) [[42]] i
def BV(e:Nat->St)(i:Nat):PT×Nat:=rowP s T b (xB s T b e) [[43],[45],[43,43]] i
def jV(e:Nat->St)(i:Nat):PT×Nat:=
 if aW s T [[61,61],[60]] (BV s T b e i).2 then iA s T b (BV s T b e) (BV s T b e i)else BV s T b e i
def tQ:List UInt8:=[108,101,116]
def XR:List UInt8:=[105,102]
def wZ:List UInt8:=[102,117,110]
def O9:List UInt8:=[105,110]
def uG:List UInt8:=[116,104,101,110]
def wD:List UInt8:=[101,108,115,101]
def V4(e:Nat->St)(i:Nat):PT×Nat:=nC s T b 7 i (thn (thn (thn (thn (thn (aK s T b i) (aQ s T b)) (aN s T b [61])) e) (aN s T b O9)) e)
def su(e:Nat->St)(i:Nat):PT×Nat:=nC s T b 8 i (thn (thn (thn (thn (thn (aK s T b i) e) (aN s T b uG)) e) (aN s T b wD)) e)
def o8(e:Nat->St)(i:Nat):PT×Nat:=nC s T b 9 i (thn (thn (thn (aK s T b i) fun i=>aS (bB s T b i)) (aN s T b [61,62])) e)
def aU:Nat->Nat->PT×Nat
 |0,i=>(.gap jN (bC s T b i) true,i)
 |f+1,i=>
  if aW s T [tQ] i then V4 s T b (fun i=>aS (aU f i)) i
  else if aW s T [XR] i then su s T b (fun i=>aS (aU f i)) i
  else if aW s T [wZ] i then o8 s T b (fun i=>aS (aU f i)) i
  else jV s T b (fun i=>aS (aU f i)) i
def fZ:List UInt8:=[117,115,101]
def gL:List UInt8:=[112,117,98]
def iP:List UInt8:=[100,101,102]
def wE:List UInt8:=[97,115]
def fK(i:Nat):Bool:=aW s T [fZ,gL,iP] i
def fM:Nat->Bool->St->St
 |0,_,st=>st
 |f+1,last,st=>if last=false/\aH T st.2<T.length/\fK s T st.2=false then fM f (aW s T [[59]] st.2) (thn st (aK s T b))else st
def dA(i:Nat):St:=if aW s T [gL] i then aK s T b i else([],i)
def nT(st:St):St:=
 let u:=thn (thn (thn (thn st (aN s T b fZ)) (aQ s T b)) (aN s T b [46])) (aQ s T b)
 thn (if aW s T [wE] u.2 then thn (thn u (aK s T b)) (aQ s T b)else u) (aN s T b [59])
def oC(st:St):St:=
 let u:=thn (thn st (aN s T b iP)) (aQ s T b)
 thn (thn (thn (if aW s T [[40]] u.2 then thn u (fun i=>aS (bB s T b i))else u) (aN s T b [61])) (fun i=>aS (aU s T b 65 i))) (aN s T b [59])
def gT(i:Nat):PT×Nat:=
 if aW s T [fZ] (dA s T b i).2 then nC s T b 3 i (nT s T b (dA s T b i))else nC s T b 4 i (oC s T b (dA s T b i))
def qQ(i:Nat):PT×Nat:=nC s T b 5 i (fM s T b (T.length+1) false ([],i))
end
section
variable(s:List UInt8)(T:List (Nat×Nat×Nat))
def dU(i:Nat):PT×Nat:=if fK s T i then gT s T (dD s T i) i else qQ s T (dD s T i) i
structure Kd where
 part:PT
 base:Nat
 first:Nat
 last:Nat
def bV:Nat->Nat->List Kd×Nat
 |0,i=>([],i)
 |f+1,i=>if aH T i<T.length then(⟨(dU s T i).1,dD s T i,i,(dU s T i).2⟩::(bV f (dU s T i).2).1,(bV f (dU s T i).2).2)else([],i)
def sP(i:Nat):List PT:=(T.drop i).map (gY s 0)
end
section
variable(s:List UInt8)(T:List (Nat×Nat×Nat))(b:Nat)
theorem CL(i:Nat):i<=aH T i:=by unfold aH;omega
theorem JJ(i:Nat)(h:i<=T.length):aH T i<=T.length:=by
 unfold aH;have:=(List.takeWhile_prefix dY (l:=T.drop i)).length_le;rw[aCB] at this;omega
theorem YK(i:Nat)(h:T.length<=i):aH T i=i:=by
 unfold aH;rw[List.drop_eq_nil_of_le h];rfl
theorem Dn(i:Nat)(h:i<T.length)(hb:dY T[i]=true):aH T i=aH T (i+1):=by
 unfold aH;rw[aDE h,aDW,if_pos hb,aCC];omega
theorem QY(i:Nat)(h:i<T.length)(hb:dY T[i]=false):aH T i=i:=by
 unfold aH;rw[aDE h,aDW,if_neg (by rw[hb];simp)];rfl
theorem KG(i:Nat)(h:i<=T.length):i<=toP T i:=by
 have:=CL T i;unfold toP;omega
theorem vY(i:Nat):toP T i<=T.length:=by unfold toP;omega
theorem KF(i:Nat)(h:aH T i<T.length):i<toP T i:=by
 have:=CL T i;unfold toP;omega
theorem mX(n:Nat)(h:T.length<=n):bR T n=0:=by unfold bR;rw[aEX h];rfl
theorem tC(n:Nat)(h:n<T.length):bR T n=T[n].1:=by unfold bR;rw[aBY h];rfl
theorem Po(n:Nat)(h:T.length<=n):gX s T n=[]:=by unfold gX;rw[aEX h];rfl
theorem yB(n:Nat)(h:n<T.length):gX s T n=jI s T[n]:=by unfold gX;rw[aBY h];rfl
theorem DW(n:Nat)(h:T.length<=n):dD s T n=s.length:=by unfold dD;rw[aEX h];rfl
theorem VU(n:Nat)(h:n<T.length):dD s T n=T[n].2.1:=by unfold dD;rw[aBY h];rfl
theorem is_lt{l:List (List UInt8)}(h:aW s T l i=true):aH T i<T.length:=by
 apply Nat.lt_of_not_le;intro hn;unfold aW at h;rw[mX T _ hn] at h;simp at h
theorem af{k:Nat}(h:bR T (aH T i)=k+1):aH T i<T.length:=by
 apply Nat.lt_of_not_le;intro hn;rw[mX T _ hn] at h;simp at h
def oQ(f:Nat->St)(c:Nat):Prop:= ∀i,i<=T.length->i<=(f i).2/\(f i).2<=T.length/\(f i).1.length<=2*((f i).2-i)+c
variable{s T b}
theorem oQ.mono {f:Nat->St}{d:Nat}(h:oQ T f c)(hd:c<=d):oQ T f d:=fun i hi=>by have:=h i hi;omega
theorem oQ.thn {f g:Nat->St}{d:Nat}(h:oQ T f c)(hg:oQ T g d):oQ T (fun i=>thn (f i) g) (c+d):=fun i hi=>by
 have h1:=h i hi;have h2:=hg (f i).2 h1.2.1;unfold Tr.thn;simp only[aBW];omega
theorem oQ.one {f:Nat->PT×Nat}(h: ∀i,i<=T.length->i<=(f i).2/\(f i).2<=T.length):oQ T (fun i=>aS (f i)) 1:=fun i hi=>by
 have:=h i hi;unfold aS;simp only[aCC,List.length_nil];omega
theorem oQ.ite {f g:Nat->St}{p:Nat->Bool}(h:oQ T f c)(hg:oQ T g c):oQ T (fun i=>if p i then f i else g i) c:=fun i hi=>by
 dsimp only;split
 ·exact h i hi
 ·exact hg i hi
variable(s T b)
theorem take_len(i:Nat)(h:i<=T.length):(aK s T b i).1.length=toP T i-i:=by
 have h1:=vY T i;have h2:=KG T i h;unfold aK;simp only[aCE,aCY,aCB];omega
theorem gD:oQ T (aK s T b) 0:=fun i hi=>by
 have h1:=take_len s T b i hi;have h2:=KG T i hi;have h3:=vY T i;have h4:(aK s T b i).2=toP T i:=rfl;omega
theorem LB(w:List UInt8):oQ T (nU s T b w) 1:=fun i hi=>⟨aBT _,hi,by unfold nU;simp⟩
theorem cK(w:List UInt8):oQ T (aN s T b w) 1:=fun i hi=>by
 unfold aN;split
 ·exact(gD s T b).mono (aBZ _) i hi
 ·exact LB s T b w i hi
theorem iM:oQ T (aQ s T b) 1:=fun i hi=>by
 unfold aQ;split
 ·exact(gD s T b).mono (aBZ _) i hi
 ·exact LB s T b lY i hi
def fC(one:Nat->St)(st:St):St:=thn (thn st (aK s T b)) one
theorem nN{one:Nat->St}(ho:oQ T one 1)(st:St)(h:st.2<=T.length)(hn:aH T st.2<T.length):
  st.2<(fC s T b one st).2/\(fC s T b one st).2<=T.length/\(fC s T b one st).1.length<=st.1.length+2*((fC s T b one st).2-st.2):=by
 have h1:=gD s T b st.2 h;have h2:=ho (aK s T b st.2).2 h1.2.1;have h3:=KF T st.2 hn;have h4:(aK s T b st.2).2=toP T st.2:=rfl;have h5:=take_len s T b st.2 h;unfold fC Tr.thn;simp only[aBW];omega
theorem jS(one:Nat->St)(f:Nat)(st:St):dK s T b one (f+1) st=if aW s T [[44]] st.2 then dK s T b one f (fC s T b one st)else st:=rfl
theorem RD{one:Nat->St}(ho:oQ T one 1): ∀(f g:Nat) (st:St),st.2<=T.length->T.length+1<=f+st.2->T.length+1<=g+st.2->dK s T b one f st=dK s T b one g st
 |0,_,st,h,h1,_=>by omega
 |f+1,0,st,h,_,h2=>by omega
 |f+1,g+1,st,h,h1,h2=>by
  rw[jS,jS];split
  ·rename_i hi;have h3:=nN s T b ho st h (is_lt s T hi);exact RD ho f g _ h3.2.1 (by omega) (by omega)
  ·rfl
theorem yM{one:Nat->St}(ho:oQ T one 1)(st:St)(h:st.2<=T.length)(hi:aW s T [[44]] st.2=true):dK s T b one (T.length+1) st=dK s T b one (T.length+1) (fC s T b one st):=by
 rw[jS,if_pos hi];have h3:=nN s T b ho st h (is_lt s T hi);exact RD s T b ho _ _ _ h3.2.1 (by omega) (by omega)
theorem yL(one:Nat->St)(st:St)(hi:aW s T [[44]] st.2=false):dK s T b one (T.length+1) st=st:=by rw[jS,if_neg (by rw[hi];simp)]
theorem LH{one:Nat->St}(ho:oQ T one 1): ∀(f:Nat) (st:St),st.2<=T.length->st.2<=(dK s T b one f st).2/\(dK s T b one f st).2<=T.length/\(dK s T b one f st).1.length<=st.1.length+2*((dK s T b one f st).2-st.2)
 |0,st,h=>⟨aBT _,h,by unfold dK;omega⟩
 |f+1,st,h=>by
  rw[jS];split
  ·rename_i hi;have h3:=nN s T b ho st h (is_lt s T hi);have h4:=LH ho f _ h3.2.1;omega
  ·exact⟨aBT _,h,by omega⟩
theorem RF{f:Nat->St}{one:Nat->St}(hf:oQ T f c)(ho:oQ T one 1):oQ T (fun i=>dK s T b one (T.length+1) (f i)) c:=fun i hi=>by
 have h1:=hf i hi;have h2:=LH s T b ho (T.length+1) (f i) h1.2.1;dsimp only;omega
def Goes(f:Nat->PT×Nat):Prop:= ∀i,i<=T.length->i<=(f i).2/\(f i).2<=T.length
theorem vU{f:Nat->St}{kind:Nat}(h:oQ T f c):Goes T (fun i=>nC s T b kind i (f i)):=fun i hi=>by
 have:=h i hi;exact⟨this.1,this.2.1⟩
theorem qE:Goes T (bB s T b):=by
 have h1:=cK s T b [40];have h2:=RF s T b (h1.thn (iM s T b)) (iM s T b);exact vU s T b (kind:=6) (((h1.mono (by omega)).ite (p:=fun i=>aW s T [[41]] (aN s T b [40] i).2) h2).thn (cK s T b [41]))
theorem yN{e:Nat->St}(he:oQ T e 1)(kind:Nat)(shut:List UInt8):Goes T (eH s T b e kind shut):=by
 have h1:=gD s T b;have h2:=RF s T b (h1.thn he) he;exact vU s T b (kind:=kind) (((h1.mono (by omega)).ite (p:=fun i=>aW s T [shut] (aK s T b i).2) h2).thn (cK s T b shut))
theorem FC{e:Nat->St}(he:oQ T e 1):Goes T (fD s T b e):=fun i hi=>by
 unfold fD;split
 ·exact vU s T b (gD s T b) i hi
 split
 ·exact vU s T b (kind:=14) (((gD s T b).thn he).thn (cK s T b [41])) i hi
 split
 ·exact yN s T b he 13 [93] i hi
 ·exact⟨aBT _,hi⟩
def mD(e:Nat->St)(r:PT×Nat):PT×Nat:=(.branch 11 r.1.from_ [r.1,(eH s T b e 12 [41] r.2).1],(eH s T b e 12 [41] r.2).2)
theorem JK{e:Nat->St}(he:oQ T e 1)(kind:Nat)(shut:List UInt8)(i:Nat)(hi:i<=T.length)(hn:aH T i<T.length):i<(eH s T b e kind shut i).2:=by
 have h0:=KF T i hn;have h4:(aK s T b i).2=toP T i:=rfl;have h1:=gD s T b i hi;have h2:=he _ h1.2.1;have h3:=LH s T b he (T.length+1) (thn (aK s T b i) e) h2.2.1;unfold eH nC;simp only[thn] at *;split
 ·have:=cK s T b shut _ h1.2.1;omega
 ·have:=cK s T b shut _ h3.2.1;omega
theorem jE(e:Nat->St)(f:Nat)(r:PT×Nat):gJ s T b e (f+1) r=if aW s T [[40]] r.2 then gJ s T b e f (mD s T b e r)else r:=rfl
theorem NP{e:Nat->St}(he:oQ T e 1): ∀(f g:Nat) (r:PT×Nat),r.2<=T.length->T.length+1<=f+r.2->T.length+1<=g+r.2->gJ s T b e f r=gJ s T b e g r
 |0,_,r,h,h1,_=>by omega
 |f+1,0,r,h,_,h2=>by omega
 |f+1,g+1,r,h,h1,h2=>by
  rw[jE,jE];split
  ·rename_i hi;have h3:=JK s T b he 12 [41] r.2 h (is_lt s T hi);have h4:=yN s T b he 12 [41] r.2 h;have h5:(mD s T b e r).2=(eH s T b e 12 [41] r.2).2:=rfl;exact NP he f g _ (by omega) (by omega) (by omega)
  ·rfl
theorem NM{e:Nat->St}(he:oQ T e 1)(r:PT×Nat)(h:r.2<=T.length)(hi:aW s T [[40]] r.2=true):gJ s T b e (T.length+1) r=gJ s T b e (T.length+1) (mD s T b e r):=by
 rw[jE,if_pos hi];have h3:=JK s T b he 12 [41] r.2 h (is_lt s T hi);have h4:=yN s T b he 12 [41] r.2 h;have h5:(mD s T b e r).2=(eH s T b e 12 [41] r.2).2:=rfl;exact NP s T b he _ _ _ (by omega) (by omega) (by omega)
theorem NL(e:Nat->St)(r:PT×Nat)(hi:aW s T [[40]] r.2=false):gJ s T b e (T.length+1) r=r:=by rw[jE,if_neg (by rw[hi];simp)]
theorem NN{e:Nat->St}(he:oQ T e 1): ∀(f:Nat) (r:PT×Nat),r.2<=T.length->r.2<=(gJ s T b e f r).2/\(gJ s T b e f r).2<=T.length
 |0,r,h=>⟨aBT _,h⟩
 |f+1,r,h=>by
  rw[jE];split
  ·have h4:=yN s T b he 12 [41] r.2 h;have h5:(mD s T b e r).2=(eH s T b e 12 [41] r.2).2:=rfl;have:=NN he f (mD s T b e r) (by omega);omega
  ·exact⟨aBT _,h⟩
theorem FX{e:Nat->St}(he:oQ T e 1):Goes T (oG s T b e):=fun i hi=>by
 have h1:=FC s T b he i hi;have h2:=NN s T b he (T.length+1) _ h1.2;unfold oG;omega
theorem xR{one:Nat->PT×Nat}(ho:Goes T one)(r:PT×Nat)(h:r.2<=T.length):r.2<=(iA s T b one r).2/\(iA s T b one r).2<=T.length:=by
 have h1:=gD s T b r.2 h;have h2:=ho _ h1.2.1;have h5:(iA s T b one r).2=(one (aK s T b r.2).2).2:=rfl;omega
theorem NS{one:Nat->PT×Nat}(ho:Goes T one)(r:PT×Nat)(h:r.2<=T.length)(hn:aH T r.2<T.length):r.2<(iA s T b one r).2:=by
 have h1:=gD s T b r.2 h;have h2:=ho _ h1.2.1;have h3:=KF T r.2 hn;have h4:(aK s T b r.2).2=toP T r.2:=rfl;have h5:(iA s T b one r).2=(one (aK s T b r.2).2).2:=rfl;omega
theorem kU(one:Nat->PT×Nat)(signs:List (List UInt8))(f:Nat)(r:PT×Nat):iX s T b one signs (f+1) r=if aW s T signs r.2 then iX s T b one signs f (iA s T b one r)else r:=rfl
theorem QN{one:Nat->PT×Nat}(ho:Goes T one)(signs:List (List UInt8)): ∀(f g:Nat) (r:PT×Nat),r.2<=T.length->T.length+1<=f+r.2->T.length+1<=g+r.2->iX s T b one signs f r=iX s T b one signs g r
 |0,_,r,h,h1,_=>by omega
 |f+1,0,r,h,_,h2=>by omega
 |f+1,g+1,r,h,h1,h2=>by
  rw[kU,kU];split
  ·rename_i hi;have h3:=NS s T b ho r h (is_lt s T hi);have h4:=xR s T b ho r h;exact QN ho signs f g _ (by omega) (by omega) (by omega)
  ·rfl
theorem FB{one:Nat->PT×Nat}(ho:Goes T one)(signs:List (List UInt8))(r:PT×Nat)(h:r.2<=T.length)(hi:aW s T signs r.2=true):iX s T b one signs (T.length+1) r=iX s T b one signs (T.length+1) (iA s T b one r):=by
 rw[kU,if_pos hi];have h3:=NS s T b ho r h (is_lt s T hi);have h4:=xR s T b ho r h;exact QN s T b ho signs _ _ _ (by omega) (by omega) (by omega)
theorem EZ(one:Nat->PT×Nat)(signs:List (List UInt8))(r:PT×Nat)(hi:aW s T signs r.2=false):iX s T b one signs (T.length+1) r=r:=by rw[kU,if_neg (by rw[hi];simp)]
theorem QM{one:Nat->PT×Nat}(ho:Goes T one)(signs:List (List UInt8)): ∀(f:Nat) (r:PT×Nat),r.2<=T.length->r.2<=(iX s T b one signs f r).2/\(iX s T b one signs f r).2<=T.length
 |0,r,h=>⟨aBT _,h⟩
 |f+1,r,h=>by
  rw[kU];split
  ·have h4:=xR s T b ho r h;have:=QM ho signs f _ h4.2;omega
  ·exact⟨aBT _,h⟩
theorem CB{one:Nat->PT×Nat}(ho:Goes T one)(signs:List (List UInt8)):Goes T (rowP s T b one signs):=fun i hi=>by
 have h1:=ho i hi;have h2:=QM s T b ho signs (T.length+1) _ h1.2;unfold rowP;omega
theorem CG{e:Nat->St}(he:oQ T e 1):Goes T (xB s T b e):=CB s T b (FX s T b he) _
theorem XL{e:Nat->St}(he:oQ T e 1):Goes T (BV s T b e):=CB s T b (CG s T b he) _
theorem Ls{e:Nat->St}(he:oQ T e 1):Goes T (jV s T b e):=fun i hi=>by
 have h1:=XL s T b he i hi;unfold jV;split
 ·have:=xR s T b (XL s T b he) (BV s T b e i) h1.2;omega
 ·exact h1
theorem yQ: ∀f,Goes T (aU s T b f)
 |0=>fun i hi=>⟨aBT _,hi⟩
 |f+1=>fun i hi=>by
  have he:oQ T (fun i=>aS (aU s T b f i)) 1:=oQ.one (yQ f);have hp:oQ T (fun i=>aS (bB s T b i)) 1:=oQ.one (qE s T b);have ht:=gD s T b;rw[aU];split
  ·exact vU s T b (kind:=7) (((((ht.thn (iM s T b)).thn (cK s T b [61])).thn he).thn (cK s T b O9)).thn he) i hi
  split
  ·exact vU s T b (kind:=8) (((((ht.thn he).thn (cK s T b uG)).thn he).thn (cK s T b wD)).thn he) i hi
  split
  ·exact vU s T b (kind:=9) (((ht.thn hp).thn (cK s T b [61,62])).thn he) i hi
  ·exact Ls s T b he i hi
theorem DR(f:Nat):oQ T (fun i=>aS (aU s T b f i)) 1:=oQ.one (yQ s T b f)
theorem Dj:oQ T (dA s T b) 0:=fun i hi=>by
 unfold dA;split
 ·exact gD s T b i hi
 ·exact⟨aBT _,hi,by simp⟩
theorem kH(f:Nat)(last:Bool)(st:St):fM s T b (f+1) last st=if last=false/\aH T st.2<T.length/\fK s T st.2=false then fM s T b f (aW s T [[59]] st.2) (thn st (aK s T b))else st:=rfl
theorem iO(st:St)(h:st.2<=T.length)(hn:aH T st.2<T.length):st.2<(thn st (aK s T b)).2/\(thn st (aK s T b)).2<=T.length/\(thn st (aK s T b)).1.length=st.1.length+((thn st (aK s T b)).2-st.2):=by
 have h1:=take_len s T b st.2 h;have h2:=KF T st.2 hn;have h3:=vY T st.2;have h4:(thn st (aK s T b)).2=toP T st.2:=rfl;unfold thn;simp only[aBW];rw[h1];have h5:(aK s T b st.2).2=toP T st.2:=rfl;omega
theorem LV: ∀(f g:Nat) (last:Bool) (st:St),st.2<=T.length->T.length+1<=f+st.2->T.length+1<=g+st.2->fM s T b f last st=fM s T b g last st
 |0,_,_,st,h,h1,_=>by omega
 |f+1,0,_,st,h,_,h2=>by omega
 |f+1,g+1,last,st,h,h1,h2=>by
  rw[kH,kH];split
  ·rename_i hi;have h3:=iO s T b st h hi.2.1;exact LV f g _ _ h3.2.1 (by omega) (by omega)
  ·rfl
theorem vL(last:Bool)(st:St)(h:st.2<=T.length)(hi:last=false/\aH T st.2<T.length/\fK s T st.2=false):fM s T b (T.length+1) last st=fM s T b (T.length+1) (aW s T [[59]] st.2) (thn st (aK s T b)):=by
 rw[kH,if_pos hi];have h3:=iO s T b st h hi.2.1;exact LV s T b _ _ _ _ h3.2.1 (by omega) (by omega)
theorem LU(last:Bool)(st:St)(hi: ¬(last=false/\aH T st.2<T.length/\fK s T st.2=false)):fM s T b (T.length+1) last st=st:=by rw[kH,if_neg hi]
theorem FJ: ∀(f:Nat) (last:Bool) (st:St),st.2<=T.length->st.2<=(fM s T b f last st).2/\(fM s T b f last st).2<=T.length/\(fM s T b f last st).1.length=st.1.length+((fM s T b f last st).2-st.2)
 |0,_,st,h=>⟨aBT _,h,by unfold fM;omega⟩
 |f+1,last,st,h=>by
  rw[kH];split
  ·rename_i hi;have h3:=iO s T b st h hi.2.1;have h4:=FJ f (aW s T [[59]] st.2) _ h3.2.1
   omega
  ·exact⟨aBT _,h,by omega⟩
end
def nD(T:List (Nat×Nat×Nat))(i c:Nat)(st:St):Prop:=i<=st.2/\st.2<=T.length/\st.1.length<=2*(st.2-i)+c
section
variable{T:List (Nat×Nat×Nat)}{i c d:Nat}{st:St}{f:Nat->St}
theorem nD.thn (h:nD T i c st)(hf:oQ T f d):nD T i (c+d) (thn st f):=by
 have h1:=hf st.2 h.2.1;obtain⟨a,b,e⟩:=h;unfold nD Tr.thn;simp only[aBW];omega
theorem nD.mono (h:nD T i c st)(hd:c<=d):nD T i d st:=⟨h.1,h.2.1,by have:=h.2.2;omega⟩
theorem nD.of (h:oQ T f c)(hi:i<=T.length):nD T i c (f i):=h i hi
theorem nD.ite {p:Bool}{u:St}(h:nD T i c st)(hu:nD T i c u):nD T i c (if p then st else u):=by
 split
 ·exact h
 ·exact hu
end
section
variable(s:List UInt8)(T:List (Nat×Nat×Nat))(b:Nat)
theorem zn{st:St}(h:nD T i c st):nD T i (c+6) (nT s T b st):=by
 unfold nT;have h4:=(((h.thn (cK s T b fZ)).thn (iM s T b)).thn (cK s T b [46])).thn (iM s T b);have h5:=(h4.thn (gD s T b)).thn (iM s T b);exact((h5.ite (h4.mono (by omega))).thn (cK s T b [59])).mono (by omega)
theorem aAm{st:St}(h:nD T i c st):nD T i (c+6) (oC s T b st):=by
 unfold oC;have h4:=(h.thn (cK s T b iP)).thn (iM s T b);have h5:=h4.thn (oQ.one (qE s T b));exact((((h5.ite (h4.mono (by omega))).thn (cK s T b [61])).thn (oQ.one (yQ s T b 65))).thn (cK s T b [59])).mono (by omega)
theorem Cn{w:List UInt8}(h:aW s T [w] i=true):i<(aN s T b w i).2:=by
 unfold aN;rw[if_pos h];exact KF T i (is_lt s T h)
theorem O0(h:fK s T i=true):aW s T [gL] i=true\/aW s T [fZ] i=true\/(aW s T [gL] i=false/\aW s T [fZ] i=false/\aW s T [iP] i=true):=by
 unfold fK aW at *;simp only[Bool.and_eq_true] at h;obtain⟨h1,h2⟩:=h;rw[h1];simp only[Bool.true_and];have h2:gX s T (aH T i)∈[fZ,gL,iP]:=by simpa [List.contains_iff_mem] using h2
 simp only[List.mem_cons,List.mem_nil_iff,or_false] at h2;rcases h2 with h2|h2|h2<;>rw[h2]<;>decide
theorem Jr(i:Nat)(h:i<=T.length):i<=(gT s T b i).2/\(gT s T b i).2<=T.length:=by
 have h0:=nD.of (Dj s T b) h;unfold gT;split
 ·have:=zn s T b h0;exact⟨this.1,this.2.1⟩
 ·have:=aAm s T b h0;exact⟨this.1,this.2.1⟩
theorem nD.self {T:List (Nat×Nat×Nat)}{st:St}(h:st.2<=T.length):nD T st.2 st.1.length st:=⟨aBT _,h,by omega⟩
theorem zo{st:St}(h:st.2<=T.length):(thn st (aN s T b fZ)).2<=(nT s T b st).2:=by
 have h0:(thn st (aN s T b fZ)).2<=T.length:=(cK s T b fZ st.2 h).2.1;unfold nT;have h4:=(((nD.self h0).thn (iM s T b)).thn (cK s T b [46])).thn (iM s T b);have h5:=(h4.thn (gD s T b)).thn (iM s T b);exact((h5.ite (p:=aW s T [wE] (thn (thn (thn (thn st (aN s T b fZ)) (aQ s T b)) (aN s T b [46])) (aQ s T b)).2) (h4.mono (by omega))).thn (cK s T b [59])).1
theorem aAn{st:St}(h:st.2<=T.length):(thn st (aN s T b iP)).2<=(oC s T b st).2:=by
 have h0:(thn st (aN s T b iP)).2<=T.length:=(cK s T b iP st.2 h).2.1;unfold oC;have h4:=(nD.self h0).thn (iM s T b);have h5:=h4.thn (oQ.one (qE s T b));exact((((h5.ite (p:=aW s T [[40]] (thn (thn st (aN s T b iP)) (aQ s T b)).2) (h4.mono (by omega))).thn (cK s T b [61])).thn (oQ.one (yQ s T b 65))).thn (cK s T b [59])).1
theorem az(i:Nat)(h:i<=T.length)(hs:fK s T i=true):i<(gT s T b i).2:=by
 have h0:=nD.of (Dj s T b) h;have hu0:=zo s T b h0.2.1;have hd0:=aAn s T b h0.2.1;have hu1:(thn (dA s T b i) (aN s T b fZ)).2=(aN s T b fZ (dA s T b i).2).2:=rfl;have hd1:(thn (dA s T b i) (aN s T b iP)).2=(aN s T b iP (dA s T b i).2).2:=rfl;have hu2:=(cK s T b fZ (dA s T b i).2 h0.2.1).1;have hd2:=(cK s T b iP (dA s T b i).2 h0.2.1).1;have e1:(nC s T b 3 i (nT s T b (dA s T b i))).2=(nT s T b (dA s T b i)).2:=rfl;have e2:(nC s T b 4 i (oC s T b (dA s T b i))).2=(oC s T b (dA s T b i)).2:=rfl
 by_cases hp:aW s T [gL] i=true
 ·have h1:i<(dA s T b i).2:=(by unfold dA;rw[if_pos hp];exact KF T i (is_lt s T hp));unfold gT;split
  ·omega
  ·omega
 ·have hpe:dA s T b i=([],i):=(by unfold dA;rw[if_neg hp]);have hpi:(dA s T b i).2=i:=(by rw[hpe]);rcases O0 s T hs with hp'|hu|⟨_,hu,hd⟩
  ·exact absurd hp' hp
  ·have hu':aW s T [fZ] (dA s T b i).2=true:=(by rw[hpi];exact hu);unfold gT;rw[if_pos hu'];have:=Cn s T b hu';omega
  ·have hu': ¬aW s T [fZ] (dA s T b i).2=true:=(by rw[hpi,hu];simp);have hd':aW s T [iP] (dA s T b i).2=true:=(by rw[hpi];exact hd);unfold gT;rw[if_neg hu'];have:=Cn s T b hd';omega
theorem Jo(i:Nat)(h:i<=T.length):i<=(qQ s T b i).2/\(qQ s T b i).2<=T.length:=by
 have:=FJ s T b (T.length+1) false ([],i) h;exact⟨this.1,this.2.1⟩
theorem ai(i:Nat)(h:i<=T.length)(hn:aH T i<T.length)(hs:fK s T i=false):i<(qQ s T b i).2:=by
 have h1:=vL s T b false ([],i) h ⟨rfl,hn,hs⟩;have h2:=iO s T b ([],i) h hn;have h3:=FJ s T b (T.length+1) (aW s T [[59]] i) (thn ([],i) (aK s T b)) h2.2.1
 have e:(qQ s T b i).2=(fM s T b (T.length+1) false ([],i)).2:=rfl;rw[h1] at e;dsimp only at *;omega
theorem YT(i:Nat)(h:i<=T.length):i<=(dU s T i).2/\(dU s T i).2<=T.length:=by
 unfold dU;split
 ·exact Jr s T _ i h
 ·exact Jo s T _ i h
theorem FI(i:Nat)(h:i<=T.length)(hn:aH T i<T.length):i<(dU s T i).2:=by
 unfold dU;split
 ·rename_i hs;exact az s T _ i h hs
 ·rename_i hs;exact ai s T _ i h hn (by simpa using hs)
def ah(i:Nat):Kd:=⟨(dU s T i).1,dD s T i,i,(dU s T i).2⟩
theorem nO(f i:Nat):bV s T (f+1) i=if aH T i<T.length then(ah s T i::(bV s T f (dU s T i).2).1,(bV s T f (dU s T i).2).2)else([],i):=rfl
theorem RO: ∀(f g i:Nat),i<=T.length->T.length+1<=f+i->T.length+1<=g+i->bV s T f i=bV s T g i
 |0,_,i,h,h1,_=>by omega
 |f+1,0,i,h,_,h2=>by omega
 |f+1,g+1,i,h,h1,h2=>by
  rw[nO,nO];split
  ·rename_i hn;have h3:=FI s T i h hn;have h4:=YT s T i h;rw[RO f g _ h4.2 (by omega) (by omega)]
  ·rfl
theorem RL(i:Nat)(h:i<=T.length)(hn:aH T i<T.length):bV s T (T.length+1) i=(ah s T i::(bV s T (T.length+1) (dU s T i).2).1,(bV s T (T.length+1) (dU s T i).2).2):=by
 rw[nO,if_pos hn];have h3:=FI s T i h hn;have h4:=YT s T i h;rw[RO s T T.length (T.length+1) _ h4.2 (by omega) (by omega)]
theorem RJ(i:Nat)(hn: ¬aH T i<T.length):bV s T (T.length+1) i=([],i):=by rw[nO,if_neg hn]
structure Good:Prop where
 WK: ∀t∈T,t.2.1+t.2.2<=s.length/\1<=t.1/\t.1<=8
 up: ∀i j,i<=j->dD s T i<=dD s T j
theorem Good.Bj {s:List UInt8}{T:List (Nat×Nat×Nat)}(h:Good s T)(i:Nat):dD s T i<=s.length:=by
 have:=h.up i (max i T.length) (by omega)
 rwa [DW s T (max i T.length) (by omega)] at this
end
end Go.Proofs.YtcjjfeephaddcaaGreatDoor.Tr
namespace Go.Proofs.YtcjjfeephaddcaaGreatDoor
structure Tr.Pl where
 end_:Nat
 from_:Int
 oJ:Int
 lacks:Bool
def Tr.CR (s q:Tr.Pl):Tr.Pl:=⟨q.end_,if s.from_<0 then q.from_ else s.from_,if s.oJ<q.oJ then q.oJ else s.oJ,s.lacks||q.lacks⟩
mutual
def Tr.gF:Tr.PT->Nat->Tr.Pl
 | .leaf k t _,a=>if k=1\/k=2 then⟨a+t.length, -1, -1,false⟩else⟨a+t.length,(a:Int),((a+t.length:Nat):Int),false⟩
 | .gap _ _ _,a=>⟨a, -1, -1,true⟩
 | .branch _ _ l,a=>Tr.fA l ⟨a, -1, -1,false⟩
def Tr.fA:List Tr.PT->Tr.Pl->Tr.Pl
 | [],s=>s
 |p::l,s=>Tr.fA l (Tr.CR s (Tr.gF p s.end_))
end
mutual
def Tr.jF:Tr.PT->Nat
 | .leaf _ t _=>t.length
 | .gap _ _ _=>0
 | .branch _ _ l=>Tr.jC l
def Tr.jC:List Tr.PT->Nat
 | []=>0
 |p::l=>Tr.jF p+Tr.jC l
end
mutual
def Tr.Nj:Tr.PT->Prop
 | .leaf _ _ _=>True
 | .gap _ _ _=>True
 | .branch k _ l=>2<=k/\l.length<=1000000000/\Tr.wM l
def Tr.wM:List Tr.PT->Prop
 | []=>True
 |p::l=>Tr.Nj p/\Tr.wM l
end
mutual
theorem Tr.sQ: ∀(p:Tr.PT) (a:Nat),(Tr.gF p a).end_=a+Tr.jF p
 | .leaf k t _,a=>by unfold Tr.gF Tr.jF;split<;>rfl
 | .gap _ _ _,a=>by unfold Tr.gF Tr.jF;rfl
 | .branch _ _ l,a=>by unfold Tr.gF Tr.jF;rw[Tr.CF l]
theorem Tr.CF: ∀(l:List Tr.PT) (s:Tr.Pl),(Tr.fA l s).end_=s.end_+Tr.jC l
 | [],s=>by unfold Tr.fA Tr.jC;rfl
 |p::l,s=>by unfold Tr.fA Tr.jC;rw[Tr.CF l];have:(Tr.CR s (Tr.gF p s.end_)).end_=(Tr.gF p s.end_).end_:=rfl;rw[this,Tr.sQ p];omega
end
theorem Tr.YB (l:List Tr.PT)(p:Tr.PT)(s:Tr.Pl):Tr.fA (l++[p]) s=Tr.CR (Tr.fA l s) (Tr.gF p (Tr.fA l s).end_):=by
 induction l generalizing s with
 |nil=>simp only[aCU,Tr.fA]
 |cons q l ih=>simp only[aCT,Tr.fA,ih]
def Tr.Pl.In (q:Tr.Pl)(n:Int):Prop:= -1<=q.from_/\q.from_<=n/\ -1<=q.oJ/\q.oJ<=n
theorem Tr.au {s q:Tr.Pl}{n:Int}(h:s.In n)(h':q.In n):(Tr.CR s q).In n:=by
 obtain⟨a,b,c,d⟩:=h;obtain⟨a',b',c',d'⟩:=h';unfold Tr.CR Tr.Pl.In;dsimp only;refine⟨?_,?_,?_,?_⟩<;>split<;>assumption
mutual
theorem Tr.g_: ∀(p:Tr.PT) (a:Nat) (n:Int),((a+Tr.jF p:Nat):Int)<=n->(Tr.gF p a).In n
 | .leaf k t _,a,n,h=>by unfold Tr.jF at h;unfold Tr.gF Tr.Pl.In;split<;>(dsimp only;omega)
 | .gap _ _ _,a,n,h=>by unfold Tr.jF at h;unfold Tr.gF Tr.Pl.In;dsimp only;omega
 | .branch _ _ l,a,n,h=>by unfold Tr.jF at h;unfold Tr.gF;exact Tr.UC l _ n h (by unfold Tr.Pl.In;dsimp only;omega)
theorem Tr.UC: ∀(l:List Tr.PT) (s:Tr.Pl) (n:Int),((s.end_+Tr.jC l:Nat):Int)<=n->s.In n->(Tr.fA l s).In n
 | [],s,n,_,hs=>by unfold Tr.fA;exact hs
 |p::l,s,n,h,hs=>by unfold Tr.jC at h;unfold Tr.fA;have h1:=Tr.sQ p s.end_;exact Tr.UC l _ n (by show(((Tr.gF p s.end_).end_+_:Nat):Int)<=n;omega) (Tr.au hs (Tr.g_ p _ n (by omega)))
end
namespace Tr
variable{c i:Nat}
mutual
def textOf:PT->List UInt8
 | .leaf _ t _=>t
 | .gap _ _ _=>[]
 | .branch _ _ l=>eG l
def eG:List PT->List UInt8
 | []=>[]
 |p::l=>textOf p++eG l
end
mutual
theorem EK: ∀p:PT,jF p=(textOf p).length
 | .leaf _ _ _=>by unfold jF textOf;rfl
 | .gap _ _ _=>by unfold jF textOf;rfl
 | .branch _ _ l=>by unfold jF textOf;exact uW l
theorem uW: ∀l:List PT,jC l=(eG l).length
 | []=>by unfold jC eG;rfl
 |p::l=>by unfold jC eG;rw[aBW,EK p,uW l]
end
theorem EN(l m:List PT):eG (l++m)=eG l++eG m:=by
 induction l with
 |nil=>simp[eG]
 |cons p l ih=>simp only[aCT,eG,ih,List.append_assoc]
theorem Cm(l m:List PT):wM (l++m)↔wM l/\wM m:=by
 induction l with
 |nil=>simp[wM]
 |cons p l ih=>simp only[aCT,wM,ih,and_assoc]
section
variable(s:List UInt8)(T:List (Nat×Nat×Nat))(b:Nat)
def sl(i j:Nat):List UInt8:=(s.drop (dD s T i)).take (dD s T j-dD s T i)
theorem qW(i:Nat):sl s T i i=[]:=by unfold sl;rw[Nat.sub_self,aEP]
structure Side:Prop where
 good:Good s T
 tile: ∀k (h:k<T.length),T[k].2.1+T[k].2.2=dD s T (k+1)
 first:dD s T 0=0
 few:T.length<=400000000
variable{s T}
theorem EU(h:Good s T){j k:Nat}(hij:i<=j)(hjk:j<=k):sl s T i j++sl s T j k=sl s T i k:=by
 have h1:=h.up i j hij;have h2:=h.up j k hjk;unfold sl;generalize dD s T i=x at *;generalize dD s T j=y at *;generalize dD s T k=z at *;have e:z-x=(y-x)+(z-y):=by omega
 rw[e,List.take_add,List.drop_drop]
 congr 3
 omega
theorem Ps(h:Side s T){k:Nat}(hk:k<T.length):jI s T[k]=sl s T k (k+1):=by
 have h1:=h.tile k hk;have h2:=VU s T k hk;unfold jI sl;rw[<-h1,h2,Nat.add_sub_cancel_left]
theorem TM(h:Good s T){j:Nat}(hij:i<=j):(sl s T i j).length=dD s T j-dD s T i:=by
 have h1:=h.up i j hij;have h2:=h.Bj j;unfold sl;rw[aCY,aCB];omega
structure kS(s:List UInt8)(T:List (Nat×Nat×Nat))(i c:Nat)(st:St):Prop where
 ok:nD T i c st
 text:eG st.1=sl s T i st.2
 wf:wM st.1
structure mF(s:List UInt8)(T:List (Nat×Nat×Nat))(f:Nat->St)(c:Nat):Prop where
 SS:oQ T f c
 fine: ∀i,i<=T.length->eG (f i).1=sl s T i (f i).2/\wM (f i).1
theorem mF.at_ {f:Nat->St}(h:mF s T f c)(hi:i<=T.length):kS s T i c (f i):=⟨nD.of h.SS hi,(h.fine i hi).1,(h.fine i hi).2⟩
theorem mF.of {f:Nat->St}(h: ∀i,i<=T.length->kS s T i c (f i)):mF s T f c:=⟨fun i hi=>(h i hi).ok,fun i hi=>⟨(h i hi).text,(h i hi).wf⟩⟩
theorem kS.thn {d:Nat}{st:St}{f:Nat->St}(hS:Side s T)(h:kS s T i c st)(hf:mF s T f d):kS s T i (c+d) (thn st f):=by
 have h1:=hf.fine st.2 h.ok.2.1;have h2:=(hf.SS st.2 h.ok.2.1).1;refine⟨h.ok.thn hf.SS,?_,?_⟩
 ·unfold Tr.thn;dsimp only;rw[EN,h.text,h1.1];exact EU hS.good h.ok.1 h2
 ·unfold Tr.thn;exact(Cm _ _).2 ⟨h.wf,h1.2⟩
theorem kS.mono {d:Nat}{st:St}(h:kS s T i c st)(hd:c<=d):kS s T i d st:=⟨h.ok.mono hd,h.text,h.wf⟩
theorem kS.ite {st u:St}{p:Bool}(h:kS s T i c st)(hu:kS s T i c u):kS s T i c (if p then st else u):=by
 split
 ·exact h
 ·exact hu
theorem kS.nil (hi:i<=T.length):kS s T i 0 ([],i):=⟨⟨aBT _,hi,by simp⟩,by rw[qW];rfl,trivial⟩
theorem kS.br {kind a:Nat}{st:St}(hS:Side s T)(h:kS s T i c st)(hc:c<=1000)(hk:2<=kind):kS s T i 1 ([.branch kind a st.1],st.2):=by
 refine⟨⟨h.ok.1,h.ok.2.1,by simp⟩,?_,?_⟩
 ·simp only[eG,textOf,aCO,h.text]
 ·have h1:=h.ok.2.2;have h2:=h.ok.2.1;have h3:=hS.few;exact⟨⟨hk,by omega,h.wf⟩,trivial⟩
variable(hS:Side s T)
include hS
theorem sZ: ∀(n i:Nat),i+n<=T.length->eG (((T.drop i).take n).map (gY s b))=sl s T i (i+n)/\wM (((T.drop i).take n).map (gY s b))
 |0,i,_=>by rw[aEP,Nat.add_zero,qW];exact⟨rfl,trivial⟩
 |n+1,i,h=>by have ih:=sZ n (i+1) (by omega);have hi:i<T.length:=(by omega);rw[aDE hi,List.take_succ_cons,aDH];refine⟨?_,trivial,ih.2⟩;rw[show i+(n+1)=(i+1)+n by omega,<-EU hS.good (Nat.le_succ i) (by omega),<-Ps hS hi];simp only[eG,ih.1];rfl
theorem jM:mF s T (aK s T b) 0:=⟨gD s T b,fun i hi=>by
 have h1:=KG T i hi;have h2:=vY T i;have h:=sZ b hS (toP T i-i) i (by omega);rw[show i+(toP T i-i)=toP T i by omega] at h;exact h⟩
omit hS in
theorem QZ(w:List UInt8):mF s T (nU s T b w) 1:=⟨LB s T b w,fun i hi=>⟨by unfold nU;rw[qW];rfl,trivial,trivial⟩⟩
theorem fV(w:List UInt8):mF s T (aN s T b w) 1:=mF.of fun i hi=>by
 unfold aN;exact(((jM b hS).at_ hi).mono (aBZ _)).ite ((QZ b w).at_ hi)
theorem pG:mF s T (aQ s T b) 1:=mF.of fun i hi=>by
 unfold aQ;exact(((jM b hS).at_ hi).mono (aBZ _)).ite ((QZ b lY).at_ hi)
theorem Q5{one:Nat->St}(ho:mF s T one 1){st:St}(h:kS s T i 2 st)(hn:aH T st.2<T.length):kS s T i 2 (fC s T b one st):=by
 have h1:=(h.thn hS (jM b hS)).thn hS ho;have h2:=nN s T b ho.SS st h.ok.2.1 hn;exact⟨⟨h1.ok.1,h1.ok.2.1,by have:=h.ok.2.2;have:=h.ok.1;omega⟩,h1.text,h1.wf⟩
theorem FE{one:Nat->St}(ho:mF s T one 1): ∀(f:Nat) (st:St),kS s T i 2 st->kS s T i 2 (dK s T b one f st)
 |0,st,h=>h
 |f+1,st,h=>by
  rw[jS];split
  ·rename_i hi;exact FE ho f _ (Q5 b hS ho h (is_lt s T hi))
  ·exact h
def pR(s:List UInt8)(T:List (Nat×Nat×Nat))(f:Nat->PT×Nat):Prop:=mF s T (fun i=>aS (f i)) 1
omit hS in
theorem pR.of {f:Nat->PT×Nat}(h: ∀i,i<=T.length->kS s T i 1 (aS (f i))):pR s T f:=mF.of h
theorem GU:pR s T (bB s T b):=pR.of fun i hi=>by
 have h1:=(fV b hS [40]).at_ hi;have h2:=FE b hS (pG b hS) (T.length+1) _ (h1.thn hS (pG b hS));have h3:=((h1.mono (by omega:1<=2)).ite (p:=aW s T [[41]] (aN s T b [40] i).2) h2).thn hS (fV b hS [41])
 exact h3.br hS (by omega) (by omega)
theorem RH{e:Nat->St}(he:mF s T e 1)(kind:Nat)(hk:2<=kind)(shut:List UInt8):pR s T (eH s T b e kind shut):=pR.of fun i hi=>by
 have h1:=(jM b hS).at_ hi;have h2:=FE b hS he (T.length+1) _ ((h1.thn hS he).mono (by omega));have h3:=((h1.mono (by omega:0<=2)).ite (p:=aW s T [shut] (aK s T b i).2) h2).thn hS (fV b hS shut);exact h3.br hS (by omega) hk
omit hS in
theorem Ri(k:Nat)(t:List UInt8)(h:0<eT k t):2<=eT k t:=by
 unfold eT at *
 repeat' split
 all_goals first|omega|simp_all
theorem Jb{e:Nat->St}(he:mF s T e 1):pR s T (fD s T b e):=pR.of fun i hi=>by
 unfold fD;split
 ·rename_i h;exact((jM b hS).at_ hi).br hS (by omega) (Ri _ _ h)
 split
 ·exact((((jM b hS).at_ hi).thn hS he).thn hS (fV b hS [41])).br hS (by omega) (by omega)
 split
 ·exact(RH b hS he 13 (by omega) [93]).at_ hi
 ·exact⟨⟨aBT _,hi,by simp[aS]⟩,by unfold aS;rw[qW];rfl,trivial,trivial⟩
omit hS in
theorem uI{r:PT×Nat}(h:kS s T i 1 (aS r)):textOf r.1=sl s T i r.2/\Nj r.1/\i<=r.2/\r.2<=T.length:=by
 have h1:=h.text;have h2:=h.wf;simp only[aS,eG,aCO] at h1;exact⟨h1,h2.1,h.ok.1,h.ok.2.1⟩
omit hS in
theorem Jf{r:PT×Nat}(h1:textOf r.1=sl s T i r.2)(h2:Nj r.1)(h3:i<=r.2)(h4:r.2<=T.length):kS s T i 1 (aS r):=
 ⟨⟨h3,h4,by simp[aS]⟩,by simp only[aS,eG,aCO,h1],h2,trivial⟩
theorem NQ{e:Nat->St}(he:mF s T e 1): ∀(f:Nat) (r:PT×Nat),kS s T i 1 (aS r)->kS s T i 1 (aS (gJ s T b e f r))
 |0,r,h=>h
 |f+1,r,h=>by
  rw[jE];split
  ·refine NQ he f _ ?_;have h2:=uI ((RH b hS he 12 (by omega) [41]).at_ h.ok.2.1);obtain⟨a1,a2,a3,a4⟩:=uI h;obtain⟨b1,b2,b3,b4⟩:=h2;have b1:textOf (eH s T b e 12 [41] r.2).1=sl s T r.2 (eH s T b e 12 [41] r.2).2:=b1;have b3:r.2<=(eH s T b e 12 [41] r.2).2:=b3;refine Jf ?_ ?_ ?_ ?_
   ·simp only[mD,textOf,eG,aCO,a1,b1];exact EU hS.good a3 b3
   ·unfold mD;exact⟨by omega,by simp,a2,b2,trivial⟩
   ·unfold mD;dsimp only;omega
   ·exact b4
  ·exact h
theorem Ma{e:Nat->St}(he:mF s T e 1):pR s T (oG s T b e):=pR.of fun _ hi=>NQ b hS he _ _ ((Jb b hS he).at_ hi)
theorem G9{one:Nat->PT×Nat}(ho:pR s T one){r:PT×Nat}(h:kS s T i 1 (aS r)):kS s T i 1 (aS (iA s T b one r)):=by
 have h1:=(h.thn hS (jM b hS)).thn hS ho;exact h1.br (kind:=10) (a:=r.1.from_) hS (by omega) (by omega)
theorem QO{one:Nat->PT×Nat}(ho:pR s T one)(signs:List (List UInt8)): ∀(f:Nat) (r:PT×Nat),kS s T i 1 (aS r)->kS s T i 1 (aS (iX s T b one signs f r))
 |0,r,h=>h
 |f+1,r,h=>by
  rw[kU];split
  ·exact QO ho signs f _ (G9 b hS ho h)
  ·exact h
theorem XV{one:Nat->PT×Nat}(ho:pR s T one)(signs:List (List UInt8)):pR s T (rowP s T b one signs):=pR.of fun _ hi=>QO b hS ho signs _ _ (ho.at_ hi)
theorem Lt{e:Nat->St}(he:mF s T e 1):pR s T (jV s T b e):=pR.of fun i hi=>by
 have hs:pR s T (BV s T b e):=XV b hS (XV b hS (Ma b hS he) _) _;unfold jV;split
 ·exact G9 b hS hs (hs.at_ hi)
 ·exact hs.at_ hi
theorem SF: ∀f,pR s T (aU s T b f)
 |0=>pR.of fun i hi=>⟨⟨aBT _,hi,by simp[aS]⟩,by unfold aU aS;rw[qW];rfl,trivial,trivial⟩
 |f+1=>pR.of fun i hi=>by
  have he:=SF f;have ht:=(jM b hS).at_ hi;rw[aU];split
  ·exact(((((ht.thn hS (pG b hS)).thn hS (fV b hS [61])).thn hS he).thn hS (fV b hS O9)).thn hS he).br hS (by omega) (by omega)
  split
  ·exact(((((ht.thn hS he).thn hS (fV b hS uG)).thn hS he).thn hS (fV b hS wD)).thn hS he).br hS (by omega) (by omega)
  split
  ·exact(((ht.thn hS (GU b hS)).thn hS (fV b hS [61,62])).thn hS he).br hS (by omega) (by omega)
  ·exact(Lt b hS he).at_ hi
theorem Qk:mF s T (dA s T b) 0:=mF.of fun i hi=>by
 unfold dA;exact((jM b hS).at_ hi).ite (kS.nil hi)
theorem Ot{st:St}(h:kS s T i c st):kS s T i (c+6) (nT s T b st):=by
 unfold nT;have h4:=(((h.thn hS (fV b hS fZ)).thn hS (pG b hS)).thn hS (fV b hS [46])).thn hS (pG b hS);have h5:=(h4.thn hS (jM b hS)).thn hS (pG b hS);exact((h5.ite (h4.mono (by omega))).thn hS (fV b hS [59])).mono (by omega)
theorem Un{st:St}(h:kS s T i c st):kS s T i (c+6) (oC s T b st):=by
 unfold oC;have h4:=(h.thn hS (fV b hS iP)).thn hS (pG b hS);have h5:=h4.thn hS (GU b hS);exact((((h5.ite (h4.mono (by omega))).thn hS (fV b hS [61])).thn hS (SF b hS 65)).thn hS (fV b hS [59])).mono (by omega)
theorem Js:pR s T (gT s T b):=pR.of fun i hi=>by
 have h0:=(Qk b hS).at_ hi;unfold gT;split
 ·exact(Ot b hS h0).br hS (by omega) (by omega)
 ·exact(Un b hS h0).br hS (by omega) (by omega)
theorem LW: ∀(f:Nat) (last:Bool) (st:St),kS s T i 0 st->kS s T i 0 (fM s T b f last st)
 |0,_,st,h=>h
 |f+1,last,st,h=>by
  rw[kH];split
  ·exact LW f _ _ (h.thn hS (jM b hS))
  ·exact h
theorem Jp:pR s T (qQ s T b):=pR.of fun i hi=>(LW b hS _ _ _ (kS.nil hi)).br hS (by omega) (by omega)
theorem LQ:pR s T (dU s T):=pR.of fun i hi=>by
 unfold dU;split
 ·exact(Js _ hS).at_ hi
 ·exact(Jp _ hS).at_ hi
theorem RP: ∀(f i:Nat),i<=T.length->eG ((bV s T f i).1.map (·.part))=sl s T i (bV s T f i).2/\wM ((bV s T f i).1.map (·.part))/\i<=(bV s T f i).2/\(bV s T f i).2<=T.length/\(bV s T f i).1.length<=(bV s T f i).2-i
 |0,i,hi=>by unfold bV;rw[qW];exact⟨rfl,trivial,aBT _,hi,aBZ _⟩
 |f+1,i,hi=>by
  rw[nO];split
  ·rename_i hn;have h1:=uI ((LQ hS).at_ hi);obtain⟨a1,a2,a3,a4⟩:=h1;have hg:=FI s T i hi hn;have ih:=RP f (dU s T i).2 a4;obtain⟨c1,c2,c3,c4,c5⟩:=ih;have e:(ah s T i).part=(dU s T i).1:=rfl;simp only[aDH,eG,c1,wM,e,a1,aCC];refine⟨EU hS.good a3 c3,⟨a2,c2⟩,by omega,c4,by omega⟩
  ·rw[qW];exact⟨rfl,trivial,aBT _,hi,aBZ _⟩
theorem Gv(i:Nat)(hi:i<=T.length):eG (sP s T i)=sl s T i T.length/\wM (sP s T i):=by
 have h:=sZ 0 hS (T.length-i) i (by omega);rw[show i+(T.length-i)=T.length by omega] at h;have e:(T.drop i).take (T.length-i)=T.drop i:=List.take_of_length_le (by rw[aCB];exact aBT _);rw[e] at h;exact h
def vV(s:List UInt8)(T:List (Nat×Nat×Nat)):List PT:=(bV s T (T.length+1) 0).1.map (·.part)++sP s T (bV s T (T.length+1) 0).2
theorem I5:eG (vV s T)=s/\wM (vV s T)/\(vV s T).length<=T.length:=by
 obtain⟨c1,c2,c3,c4,c5⟩:=RP hS (T.length+1) 0 (aBZ _);have h:=Gv hS (bV s T (T.length+1) 0).2 c4;unfold vV;refine⟨?_,(Cm _ _).2 ⟨c2,h.2⟩,?_⟩
 ·rw[EN,c1,h.1,EU hS.good c3 c4];unfold sl;rw[hS.first,DW s T _ (aBT _),Nat.sub_zero,List.drop_zero,List.take_length]
 ·rw[aBW,aCE];unfold sP;rw[aCE,aCB];omega
end
end Tr
end Go.Proofs.YtcjjfeephaddcaaGreatDoor
namespace Go.Proofs.YtcjjfeephaddcaaGreatDoor.Sc
open Tr (PT)
structure Wd where
 text:List UInt8
 at_:Nat
structure Us where
 file:Nat
 at_:Nat
 Vr:Nat
 zV:Int
 oJ:Int
 err:Nat
structure It where
 file:Nat
 base:Nat
 part:PT
 yZ:Bool
 bH:Bool
 name:Option Wd
 jT:Bool
 params:List (Option Wd)
 expr:PT
 has:Bool
 mo:Option Wd
 me:Option Wd
 al:Option Wd
def gK:PT->Bool
 | .leaf k _ _=>k==1||k==2
 |_=>false
def eZ:PT->List PT
 | .branch _ _ l=>l
 |_=>[]
def kindOf:PT->Nat
 | .branch k _ _=>k
 |_=>0
def mY:PT->Bool
 | .branch _ _ _=>true
 |_=>false
def xD:PT->Bool
 | .leaf _ _ _=>true
 |_=>false
def aI(l:List PT):List PT:=l.filter fun p=> !gK p
def dP(p:PT):List PT:=aI (eZ p)
def bA:PT->Bool
 | .leaf _ _ _=>false
 | .gap t _ _=>t==Tr.jN
 | .branch k _ _=>k !=6&&k !=12
def bF(l:List PT):List PT:=l.filter bA
def Qu:PT:=.gap [] 0 false
def mP(l:List PT)(i:Nat):PT:=l[i]?.getD Qu
def oN:PT->Option (Option (List UInt8×Nat))
 | .leaf k t a=>if k=3 then some (some (t,a))else none
 | .gap t _ _=>if t=Tr.lY then some none else none
 | .branch _ _ _=>none
def UK(p:PT):List (Option (List UInt8×Nat)):=(eZ p).filterMap oN
def eD(b:Nat):PT->Option Wd
 | .leaf _ t a=>some ⟨t,b+a⟩
 |_=>none
def bE(b:Nat)(p:PT):List (Option Wd):=(UK p).map fun x=>x.map fun y=>⟨y.1,b+y.2⟩
def sG(t:List UInt8):PT->Bool
 | .leaf _ x _=>x==t
 |_=>false
def oO(p:PT):Bool:=mY p&&kindOf p==6
def bN(p:PT):List PT:=if sG Tr.gL (mP (dP p) 0)then(dP p).drop 1 else dP p
def dZ(file:Nat)(k:Tr.Kd):It:=
 let l:=bN k.part
 let w:=fun i=>eD k.base (mP l i)
 let d:=kindOf k.part==4
 let h:= !d&&sG Tr.wE (mP l 4)
 let hp:=d&&oO (mP l 2)
 {file:=file,base:=k.base,part:=k.part,yZ:=sG Tr.gL (mP (dP k.part) 0),bH:=d,name:=if d then w 1 else if h then w 5 else w 3,jT:=hp,params:=if hp then bE k.base (mP l 2)else [],expr:=if d then(if hp then mP l 4 else mP l 3)else Qu,has:=h,mo:=if d then none else w 1,me:=if d then none else w 3,al:=if h then w 5 else none}
def gU(k:Tr.Kd):Bool:=kindOf k.part==3||kindOf k.part==4
def bM(file:Nat)(ks:List Tr.Kd):List It:=(ks.filter gU).map (dZ file)
def named(n:List UInt8)(x:It):Bool:=match x.name with
 |some w=>w.text==n
 |none=>false
def bJ(l:List It)(n:List UInt8):Option Nat:=l.findIdx? (named n)
def dW(l:List It)(k:Nat):Bool:=match(l[k]?).bind (·.name)with
 |some w=>(l.take k).any (named w.text)
 |none=>false
structure Wk where
 names:List (List UInt8)
 items:List (List It)
section
variable(W:Wk)
def nQ(x:It):Option Nat:=x.mo.bind fun m=>W.names.findIdx? (· ==m.text)
def aT(f:Nat):List It:=(W.items[f]?).getD []
inductive Nx where
 |at_ (f k:Nat)
 |is (f a:Int) (e:Nat)
def uC(x:It)(f:Nat)(n:List UInt8):Nx:=
 match bJ (aT W f) n with
 |none=>.is (-1) (-1) 4
 |some k=>
  match(aT W f)[k]? with
  |none=>.is (-1) (-1) 4
  |some y=>
   if !y.yZ&&f !=x.file then .is (-1) (-1) 6
   else if y.bH then .is f (((y.name.map (·.at_)).getD 0:Nat):Int) 0
   else .at_ f k
def kM(x:It):Nx:=
 match nQ W x,x.me with
 |some f,some m=>uC W x f m.text
 |_,_=>.is (-1) (-1) 4
def qV:Nat->List (Nat×Nat)->Nat×Nat->It->Int×Int×Nat
 |0,_,_,_=>(-1, -1,7)
 |n+1,met,at_,x=>
  match kM W x with
  | .is f a e=>(f,a,e)
  | .at_ f k=>if(met++[at_]).contains (f,k)then(-1, -1,7)else
   match(aT W f)[k]? with
   |some y=>qV n (met++[at_]) (f,k) y
   |none=>(-1, -1,7)
def lL:Nat:=(W.items.map List.length).sum
def bP(f k:Nat)(x:It):Int×Int×Nat:=qV W (lL W+1) [] (f,k) x
def jR(file at_ Vr e:Nat):Us:=⟨file,at_,Vr, -1, -1,e⟩
def dM(file at_ Vr:Nat)(twice:Bool):Us:=⟨file,at_,Vr,file,at_,if twice then 5 else 0⟩
def wN(x:It)(m:Wd):Us:=match nQ W x with
 |some g=>⟨x.file,m.at_,3,g, -1,0⟩
 |none=>jR x.file m.at_ 3 4
def EM(f k:Nat)(x:It):List Us:=
 x.mo.toList.map (wN W x)++
 x.me.toList.map (fun m=>⟨x.file,m.at_,4,(bP W f k x).1,(bP W f k x).2.1,if(bP W f k x).2.2=0/\x.has=false/\dW (aT W f) k=true then 5 else(bP W f k x).2.2⟩)++
 x.al.toList.map (fun m=>⟨x.file,m.at_,5,(bP W f k x).1,(bP W f k x).2.1,if dW (aT W f) k then 5 else 0⟩)
def aY(file:Nat):List (Option Wd)->List (Option Wd)->List Us
 |_,[]=>[]
 |ahead,none::l=>aY file (ahead++[none]) l
 |ahead,some w::l=>dM file w.at_ 1 (ahead.any fun v=>match v with|some v=>v.text==w.text|none=>false)::aY file (ahead++[some w]) l
abbrev Env:=List (List UInt8×Nat)
def dS(l:List (Option Wd))(e:Env):Env:=l.foldr (fun w e=>match w with|some w=>(w.text,w.at_)::e|none=>e) e
def jG(n:List UInt8)(e:Env):Option Nat:=(e.find? fun x=>x.1==n).map (·.2)
def XD(x:It)(t:List UInt8)(a:Nat):Us:=
 match bJ (aT W x.file) t with
 |none=>jR x.file (x.base+a) 6 4
 |some k=>
  match(aT W x.file)[k]? with
  |none=>jR x.file (x.base+a) 6 4
  |some y=>
   if y.bH then⟨x.file,x.base+a,6,x.file,((y.name.map (·.at_)).getD 0:Nat),0⟩
   else⟨x.file,x.base+a,6,(bP W x.file k y).1,(bP W x.file k y).2.1,0⟩
def mQ(x:It)(e:Env)(t:List UInt8)(a:Nat):Us:=
 match jG t e with
 |some oJ=>⟨x.file,x.base+a,6,x.file,oJ,0⟩
 |none=>XD W x t a
def tT:PT->List UInt8×Nat
 | .leaf _ t a=>(t,a)
 |_=>([],0)
def UO(b:Nat)(p:PT):Option Wd:=eD b (mP (dP p) 1)
def visitM(x:It)(e:Env)(p:PT):List Us:=
 if kindOf p=7 then(UO x.base p).toList.map (fun w=>dM x.file w.at_ 2 false)
 else if kindOf p=9 then aY x.file [] (bE x.base (mP (dP p) 1))
 else if kindOf p=18 then [mQ W x e (tT (mP (dP p) 0)).1 (tT (mP (dP p) 0)).2]
 else []
def zF(x:It)(e:Env)(p:PT):Env:=if kindOf p=9 then dS (bE x.base (mP (dP p) 1)) e else e
def uQ(x:It)(e:Env)(p:PT):Env:=
 if kindOf p=9 then dS (bE x.base (mP (dP p) 1)) e
 else if kindOf p=7 then(match UO x.base p with
  |some w=>(w.text,w.at_)::e
  |none=>e)
 else e
mutual
def dG(x:It)(e:Env):PT->List Us
 | .leaf _ _ _=>[]
 | .gap _ _ _=>[]
 | .branch k a l=>visitM W x e (.branch k a l)++bX x (zF x e (.branch k a l)) (uQ x e (.branch k a l)) l
def bX(x:It)(e1 e2:Env):List PT->List Us
 | []=>[]
 |p::l=>if bA p||kindOf p==12 then dG x e1 p++bX x e2 e2 l else bX x e1 e2 l
end
def PK(f k:Nat)(x:It):List Us:=
 x.name.toList.map (fun w=>dM x.file w.at_ 0 (dW (aT W f) k))++aY x.file [] x.params++dG W x (dS x.params []) x.expr
def fT(f k:Nat)(x:It):List Us:=if x.bH then PK W f k x else EM W f k x
def nA(f:Nat)(l:List It):List Us:=(l.zipIdx.map fun y=>fT W f y.2 y.1).flatten
def qC:List Us:=(W.items.zipIdx.map fun y=>nA W y.2 y.1).flatten
end
def Ck(l:List (List UInt8×List Tr.Kd)):Wk:=⟨l.map (·.1),l.zipIdx.map fun y=>bM y.2 y.1.2⟩
end Go.Proofs.YtcjjfeephaddcaaGreatDoor.Sc
namespace Go.Proofs.YtcjjfeephaddcaaGreatDoor.Tr
mutual
def rF{σ:Type}(f:PT->σ->σ):PT->σ->σ
 | .leaf k t a,x=>f (.leaf k t a) x
 | .gap t a d,x=>f (.gap t a d) x
 | .branch k a l,x=>mH f l (f (.branch k a l) x)
def mH{σ:Type}(f:PT->σ->σ):List PT->σ->σ
 | [],x=>x
 |p::l,x=>mH f l (rF f p x)
end
theorem oV{σ:Type}(f:PT->σ->σ): ∀(l m:List PT) (x:σ),mH f (l++m) x=mH f m (mH f l x)
 | [],m,x=>by simp only[aCU,mH]
 |p::l,m,x=>by simp only[aCT,mH,oV f l m]
def vZ:PT->Int->Int
 | .leaf k _ a,x=>if x<0/\¬(k=1\/k=2)then(a:Int)else x
 |_,x=>x
theorem yH(k:Nat)(t:List UInt8)(a:Nat)(x:Int):vZ (.leaf k t a) x=if x<0/\¬(k=1\/k=2)then(a:Int)else x:=rfl
def AB(p:PT):Int:=rF vZ p (-1)
mutual
def QX(b:Nat):PT->Nat->Prop
 | .leaf _ _ x,a=>b+x=a
 | .gap _ x _,a=>b+x=a
 | .branch k x l,a=>b+x=a/\AR b l a/\(k=5->0<=(gF (.branch k x l) a).from_/\(gF (.branch k x l) a).oJ=((gF (.branch k x l) a).end_:Int))
def AR(b:Nat):List PT->Nat->Prop
 | [],_=>True
 |p::l,a=>QX b p a/\AR b l (gF p a).end_
end
theorem Zx{b a:Nat}: ∀{p:PT},QX b p a->b+p.from_=a
 | .leaf _ _ _,h=>h
 | .gap _ _ _,h=>h
 | .branch _ _ _,h=>h.1
theorem Dl{b:Nat}: ∀(l m:List PT) (a:Nat),AR b l a->AR b m (a+jC l)->AR b (l++m) a
 | [],m,a,_,h=>by simpa [jC] using h
 |p::l,m,a,h,hm=>by
  unfold AR at h;simp only[aCT,AR];refine⟨h.1,Dl l m _ h.2 ?_⟩;rw[sQ];unfold jC at hm
  rwa [Nat.add_assoc]
mutual
theorem KM: ∀(p:PT) (x:Int),0<=x->rF vZ p x=x
 | .leaf k t a,x,h=>by unfold rF;rw[yH,if_neg (by omega)]
 | .gap t a d,x,h=>by unfold rF;rfl
 | .branch k a l,x,h=>by unfold rF;rw[show vZ (.branch k a l) x=x from rfl];exact GJ l x h
theorem GJ: ∀(l:List PT) (x:Int),0<=x->mH vZ l x=x
 | [],x,_=>by unfold mH;rfl
 |p::l,x,h=>by unfold mH;rw[KM p x h];exact GJ l x h
end
def lv(b:Nat)(x f:Int):Prop:=(x= -1/\f= -1)\/(0<=x/\f=b+x)
mutual
theorem QG{b:Nat}: ∀(p:PT) (a:Nat),QX b p a->lv b (rF vZ p (-1)) (gF p a).from_
 | .leaf k t x,a,h=>by
  unfold QX at h;unfold rF gF;rw[yH]
  by_cases hk:k=1\/k=2
  ·rw[if_neg (fun e=>e.2 hk),if_pos hk];exact .inl ⟨rfl,rfl⟩
  ·rw[if_pos ⟨by omega,hk⟩,if_neg hk];exact .inr ⟨by omega,by show(a:Int)=_;omega⟩
 | .gap t x d,a,h=>by unfold rF gF;exact .inl ⟨rfl,rfl⟩
 | .branch k x l,a,h=>by unfold QX at h;unfold rF gF;rw[show vZ (.branch k x l) (-1)= -1 from rfl];exact KL l ⟨a, -1, -1,false⟩ (-1) h.2.1 (.inl ⟨rfl,rfl⟩)
theorem KL{b:Nat}: ∀(l:List PT) (q:Pl) (x:Int),AR b l q.end_->lv b x q.from_->lv b (mH vZ l x) (fA l q).from_
 | [],q,x,_,h=>by unfold mH fA;exact h
 |p::l,q,x,ho,h=>by
  unfold AR at ho;unfold mH fA;refine KL l (CR q (gF p q.end_)) _ ho.2 ?_;show lv b _ (if q.from_<0 then(gF p q.end_).from_ else q.from_);rcases h with ⟨rfl,hf⟩|⟨hx,hf⟩
  ·rw[if_pos (by omega)];exact QG p q.end_ ho.1
  ·rw[if_neg (by omega),KM p x hx];exact .inr ⟨hx,hf⟩
end
end Go.Proofs.YtcjjfeephaddcaaGreatDoor.Tr
