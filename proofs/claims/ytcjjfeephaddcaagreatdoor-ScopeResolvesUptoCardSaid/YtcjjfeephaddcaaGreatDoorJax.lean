import Derived.Test.YtcjjfeephaddcaaGreatDoorJaj
set_option linter.all false
open Go.Proofs.Tryz renaming prog->aBS
open List renaming getElem?_eq_getElem->aBY,length_drop->aCB,getElem?_eq_some_iff->aCD,drop_eq_getElem_cons->aDE,eq_nil_of_length_eq_zero->aDV,drop_zero->aDZ,isPrefixOf->aEF,getElem?_drop->aEY
open Nat renaming le_refl->aBT,zero_le->aBZ,lt_or_ge->aCN,add_assoc->aDU
set_option maxHeartbeats 64000000
set_option maxRecDepth 100000
open Go.Proofs.Tryz
namespace Go.Proofs.YtcjjfeephaddcaaGreatDoor
variable{e:Nat}
def Lx.DZ:Nat->Nat->List (Nat×Nat×Nat)->Prop
 |a,e,[]=>a=e
 |a,e,t::R=>t.2.1=a/\1<=t.2.2/\1<=t.1/\t.1<=8/\Lx.DZ (a+t.2.2) e R
theorem Lx.SH: ∀(n a:Nat) (l:List UInt8),l.length<=n->Lx.DZ a (a+l.length) (Lx.dR a l)
 |0,a,l,h=>by obtain rfl:l=[]:=aDV (by omega);rw[Lx.jK];rfl
 |n+1,a,l,h=>by
  by_cases hne:l=[]
  ·subst hne;rw[Lx.jK];rfl
  ·have h1:=Lx.one_le l hne;rw[Lx.lS a hne];refine⟨rfl,h1.1,h1.2.2.1,h1.2.2.2,?_⟩;have:=Lx.SH n (a+(Lx.gM l).2) (l.drop (Lx.gM l).2) (by rw[aCB];omega);rw[aCB] at this;dsimp only
   rwa [show a+(Lx.gM l).2+(l.length-(Lx.gM l).2)=a+l.length by omega] at this
theorem Lx.vS {a:Nat}{R:List (Nat×Nat×Nat)}(h:Lx.DZ a e R):a=(R[0]?.map (·.2.1)).getD e:=by
 cases R with
 |nil=>exact h
 |cons t R=>simp[h.1]
theorem Lx.NJ : ∀(i a:Nat) (R:List (Nat×Nat×Nat)),Lx.DZ a e R->Lx.DZ ((R[i]?.map (·.2.1)).getD e) e (R.drop i)
 |0,a,R,h=>by rw[aDZ,<-Lx.vS h];exact h
 |i+1,a,[],h=>by simp;rfl
 |i+1,a,t::R,h=>by simpa using Lx.NJ i _ R h.2.2.2.2
theorem Lx.F5 : ∀(a:Nat) (R:List (Nat×Nat×Nat)),Lx.DZ a e R->a<=e
 |a,[],h=>by have:a=e:=h;omega
 |a,t::R,h=>by have:=Lx.F5 _ R h.2.2.2.2;omega
theorem Lx.Az {s:List UInt8}{T:List (Nat×Nat×Nat)}(h:Lx.DZ 0 s.length T)(hT:T.length<=400000000):Tr.Side s T:=by
 have habs: ∀i,Lx.DZ (Tr.dD s T i) s.length (T.drop i):=fun i=>Lx.NJ i 0 T h
 have hk: ∀k (hk:k<T.length),T[k].2.1=Tr.dD s T k/\1<=T[k].2.2/\1<=T[k].1/\T[k].1<=8/\Lx.DZ (Tr.dD s T k+T[k].2.2) s.length (T.drop (k+1)):=fun k hk=>by have:=habs k;rw[aDE hk] at this;exact this
 have ug: ∀k (h:k<T.length),T[k].2.1+T[k].2.2=Tr.dD s T (k+1):=fun k hlt=>by obtain⟨h1,_,_,_,h5⟩:=hk k hlt;rw[h1,Lx.vS h5];unfold Tr.dD;rw[aEY,Nat.add_zero]
 refine⟨⟨fun t ht=> ?_,fun i j hij=> ?_⟩,ug,?_,hT⟩
 ·obtain⟨k,hlt,rfl⟩:=List.getElem_of_mem ht;obtain⟨h1,h2,h3,h4,h5⟩:=hk k hlt;have:=Lx.F5 _ _ h5;omega
 ·induction j with
  |zero=>obtain rfl:i=0:=(by omega);exact aBT _
  |succ j ih=>
   by_cases e:i=j+1
   ·subst e;exact aBT _
   ·have h1:=ih (by omega)
    by_cases hj:j<T.length
    ·have h2:=ug j hj;have h3:=(hk j hj).1;omega
    ·have h2:=Tr.DW s T j (by omega);have h3:=Tr.DW s T (j+1) (by omega);omega
 ·have:=Lx.vS (habs 0);rw[aDZ] at this;have h0:=Lx.vS h;omega
def yV(s:List UInt8)(T:List (Nat×Nat×Nat)):Prop:= ∀t∈T,(t.1=7->Tr.jI s t≠Tr.wC/\Tr.jI s t≠Tr.qN)/\(t.1=4->Tr.jI s t≠ [63])
theorem Lx.Yy (l:List UInt8):Lx.qP l<=2:=by
 unfold Lx.qP;split
 ·omega
 ·split
  ·omega
  ·split<;>omega
theorem Lx.Je (l:List UInt8):((Lx.gM l).1=7->(Lx.gM l).2<=2)/\((Lx.gM l).1=4->l.take (Lx.gM l).2∈Lx.words):=by
 unfold Lx.gM;split
 ·exact⟨by simp,by simp⟩
 split
 ·exact⟨by simp,by simp⟩
 split
 ·split<;>exact⟨by simp,by simp⟩
 split
 ·refine⟨?_,?_⟩
  ·dsimp only;split<;>intro h<;>omega
  ·dsimp only;split
   ·rename_i h;intro _;unfold Lx.zK at h;simpa using h
   ·intro h;omega
 split
 ·refine⟨?_,?_⟩<;>(dsimp only;split<;>intro h<;>omega)
 split
 ·refine⟨?_,?_⟩<;>(dsimp only;split<;>intro h<;>omega)
 split
 ·exact⟨fun _=>Lx.Yy l,by simp⟩
 ·exact⟨by simp,by simp⟩
theorem Lx.plainly: ∀(n a:Nat) (s:List UInt8),s.length-a<=n->yV s (Lx.dR a (s.drop a))
 |0,a,s,h=>by have e:s.drop a=[]:=List.drop_eq_nil_of_le (by omega);rw[e,Lx.jK];intro t ht;simp at ht
 |n+1,a,s,h=>by
  by_cases hne:s.drop a=[]
  ·rw[hne,Lx.jK];intro t ht;simp at ht
  ·have h1:=Lx.one_le _ hne;rw[Lx.lS a hne,List.drop_drop];rw[aCB] at h1;have ih:=Lx.plainly n (a+(Lx.gM (s.drop a)).2) s (by omega);intro t ht;rcases List.mem_cons.1 ht with rfl|ht
   ·obtain⟨p7,p4⟩:=Lx.Je (s.drop a);unfold Tr.jI;dsimp only;refine⟨fun h7=> ?_,fun h4 e=> ?_⟩
    ·have hl:((s.drop a).take (Lx.gM (s.drop a)).2).length<=2:=(by rw[List.length_take];have:=p7 h7;omega);refine⟨fun e=> ?_,fun e=> ?_⟩<;>(rw[e] at hl;simp[Tr.wC,Tr.qN] at hl)
    ·have:=p4 h4;rw[e] at this
     revert this
     decide
   ·exact ih t ht
theorem Lx.KE (s:List UInt8)(hs:s.length<=400000000)(hT:(Lx.dR 0 s).length<=s.length):Tr.Side s (Lx.dR 0 s)/\yV s (Lx.dR 0 s):=by
 have h1:=Lx.SH s.length 0 s (aBT _);rw[Nat.zero_add] at h1;have h2:=Lx.plainly s.length 0 s (by omega);rw[aDZ] at h2;exact⟨Lx.Az h1 (by omega),h2⟩
open Go.RowKit
theorem Rd.tk {w:World}{B:Nat}{A:Option Addr}{l:List Tk}{k:Nat}(h:Rd w B 3 A l.length (fJ l))(hk:k<l.length):
  ∃b o,A=some ⟨b,o,none⟩/\b<B/\w.cell? ⟨b,o+k*3,none⟩=some (kZZ l[k].1)/\w.cell? ⟨b,o+k*3+1,none⟩=some (kZZ l[k].2.1)/\w.cell? ⟨b,o+k*3+2,none⟩=some (kZZ l[k].2.2):=by
 obtain⟨b,o,e,hb,hc⟩:=h.2 (by omega);refine⟨b,o,e,hb,?_,?_,?_⟩
 ·have:=hc (k*3+0) _ (uB l k 0 (by omega) hk);simpa [aDU] using this
 ·have:=hc (k*3+1) _ (uB l k 1 (by omega) hk);simpa [aDU] using this
 ·have:=hc (k*3+2) _ (uB l k 2 (by omega) hk);simpa [aDU] using this
theorem Lx.BU: ∀(n a:Nat) (l:List UInt8),l.length<=n->(Lx.dR a l).length<=l.length
 |0,a,l,h=>by obtain rfl:l=[]:=aDV (by omega);rw[Lx.jK];exact aBT _
 |n+1,a,l,h=>by
  by_cases hne:l=[]
  ·subst hne;rw[Lx.jK];exact aBT _
  ·have h1:=Lx.one_le l hne;rw[Lx.lS a hne,List.length_cons];have:=Lx.BU n (a+(Lx.gM l).2) (l.drop (Lx.gM l).2) (by rw[aCB];omega);rw[aCB] at this;omega
structure aAG(w:World)(F:Nat->Prop)(gt:Nat)(s:Bs)(T:List Tk)(ks:List Tr.Kd)(ts:List Tr.PT):Prop where
 ex: ∃d A c,vX w F gt d A c T ks ts/\TD w d s T/\F d/\fP w F A (fJ T)/\T.length<=c/\d≠gt
 at_:F gt
theorem fG.toBelow {w w':World}{g:Nat}{B:Nat}(h:fG (Old w) g w w')(hB:B<=w.heap.size)(hg:B<=g):Below B w w':=
 ⟨h.calm.os,h.calm.tape,h.calm.output,h.size,fun x hx=>h.sI x (Nat.lt_of_lt_of_le hx hB) (by omega)⟩
theorem Gs(s:Bs)(m:Int)(w:World)(hM:lN w m)(hT8:T8 w)(hW:dJ w)(hl:s.length<=1048576):
  Calls aBS 21 #[.string ⟨s.toArray⟩] w fun e w'=> ∃gt,e=.returned (pZZ gt)/\aAG w' (fun x=>w.heap.size<=x) gt s (Lx.dR 0 s) (Tr.bV s (Lx.dR 0 s) ((Lx.dR 0 s).length+1) 0).1 (Tr.sP s (Lx.dR 0 s) (Tr.bV s (Lx.dR 0 s) ((Lx.dR 0 s).length+1) 0).2)/\Below w.heap.size w w':=by
 have hnew:=Jj s m w hM hT8 hW (by omega);have Nl:=Lx.BU s.length 0 s (aBT _);obtain⟨hS, -⟩:=Lx.KE s (by omega) Nl;generalize Lx.dR 0 s=T at *;have X:iN s T:=⟨hS.good,by omega,by omega⟩;have HTl:aC (T.length<=1048576):=by show _<=_;omega
 clear hS Nl hM hT8 hW hl
 go_enter func21,ntmps21
 go_wp2_with fail;refine hnew.mono ?_;clear hnew;rintro e w1 ⟨d,rfl,hd,hD,hb1⟩;have hd2:=nR w1 (.cells #[pZZ d,nZZ,nZZ,nZZ] 131);have hB:aV (w1.alloc (.cells #[pZZ d,nZZ,nZZ,nZZ] 131)) w1.heap.size 131 #[pZZ d,nZZ,nZZ,nZZ]:=aV.new _ _ _;have hD2:=hD.below hd2;obtain⟨gt,hgt⟩:=dC w1.heap.size;rw[<-hgt] at hB;have hdl:d<gt:=by obtain⟨_,_,h,_⟩:=hD;rw[hgt];exact h.lt
 have PW:=aB hgt;go_upto_region 2 with fail;rw[<-hgt];clear hgt;generalize w1.alloc _=w2 at *;have htk:=UN d s T w2 hD2 (by have:=HTl.o;omega);have z0:=hB.cell 0;simp at z0;go_wp2_with fail;refine htk.mono ?_;clear htk;rintro e w3 ⟨A,rfl,⟨c0,hown⟩,hd3⟩;have hB3:=hB.below hd3 hB.lt;have z1:=hB3.cell 1;have y1:=hB3.frozen 1;simp at z1;have hB4:=hB3.bD 1 (.slice A T.length T.length);simp at hB4;have hrow:fP w3 (fun x=>w2.heap.size<=x) A (fJ T):=(UE hown fun q hq=>(hown.lt q hq).1).2;have hgl:=hB.lt;go_upto_region 3 with fail;have tq:w3.heap.size<=(w3.setCell ⟨gt,1,none⟩ (.slice A T.length T.length)).heap.size:=by simp[World.setCell]
 have hrow4:fP (w3.setCell ⟨gt,1,none⟩ (.slice A T.length T.length)) (fun x=>w2.heap.size<=x) A (fJ T):=hrow.keep tq fun x hx _=>⟨Below.heap_setCell _ ⟨gt,1,none⟩ _ x (by have hx:w2.heap.size<=x:=hx;show x≠gt;omega),hx⟩
 have hb4:Below gt w1 (w3.setCell ⟨gt,1,none⟩ (.slice A T.length T.length)):=(((by have:=hd2;rwa [<-PW.o] at this):Below gt w1 w2).trans (hd3.mono (Nat.le_of_lt hgl))).setCell (p:=⟨gt,1,none⟩) (aBT _) _;clear z0 z1 y1 hB hB3 hown hrow hd3 hD2 hd2;generalize w3.setCell _ _=w4 at *;have hD4:=hD.below (by have:=hb4;rwa [PW.o] at this);obtain⟨A1,c1,hB1,_⟩:=id hD4;have hrd:=Qh X hB4 hB1 (hrow4.keep (F':=fun x=>x≠gt) (aBT _) fun x hx _=>⟨rfl,(by have hx:w2.heap.size<=x:=hx;show x≠gt;omega)⟩) (aBT _);go_wp2_with fail;refine hrd.mono ?_;clear hrd;rintro e w5 ⟨n,rfl,hA,hTr⟩;go_wp2_with fail;go_ret;have hbz:=hb1.size;have hgt1:=PW.o;have hz2:=hb4.size;have hb5:Below gt w1 w5:=hb4.trans (hA.toBelow (by omega) (aBT _));have hD5:=hD.below (by rwa [hgt1] at hb5);refine⟨gt,rfl,⟨⟨d,A,T.length,?_,hD5,hd,?_,aBT _,by omega⟩,by show _<=_;omega⟩,hb1.trans (hb5.mono (by omega))⟩
 ·obtain⟨Av,cv,At,ct,vs,us,h1,h2,h3,h4,h5,h6,h7⟩:=hTr.ex;exact⟨Av,cv,At,ct,vs,us,h1,h2,h3,h4.keep (aBT _) (fun x hx _=>⟨rfl,by have hx:w4.heap.size<=x:=hx;show _<=_;omega⟩),nE.keep (aBT _) (fun x hx _=>⟨rfl,by have hx:w4.heap.size<=x:=hx;show _<=_;omega⟩) _ _ h5,h6.keep (aBT _) (fun x hx _=>⟨rfl,by have hx:w4.heap.size<=x:=hx;show _<=_;omega⟩),eF.keep (aBT _) (fun x hx _=>⟨rfl,by have hx:w4.heap.size<=x:=hx;show _<=_;omega⟩) _ _ h7⟩
 ·exact hrow4.keep hA.size fun x hx hl=>⟨hA.sI x hl (by have hx:w2.heap.size<=x:=hx;omega),by have hx:w2.heap.size<=x:=hx;show _<=_;omega⟩
theorem Zq(s:Bs)(i:Nat)(h:i+1<s.length)(a b:UInt8): [a,b].isPrefixOf (s.drop i)=(decide (s[i]=a)&&decide (s[i+1]=b)):=by
 rw[aDE (by omega),aDE (by omega),Bool.eq_iff_iff];simp[aEF];constructor
 ·rintro⟨h1,h2⟩;exact⟨h1.symm,h2.symm⟩
 ·rintro⟨h1,h2⟩;exact⟨h1.symm,h2.symm⟩
theorem Iw(l:Bs)(h:l.length<=1)(a b:UInt8): [a,b].isPrefixOf l=false:=by
 rcases l with _|⟨x,_|⟨y,t⟩⟩
 ·rfl
 ·simp[aEF]
 ·simp at h
theorem gZ(s:Bs)(i:Nat)(a b:UInt8)(w:World)(hl:s.length<=100000000)(hi:i<=s.length):
  Calls aBS 158 #[.string ⟨s.toArray⟩,kZZ i,.int .u8 a.toNat,.int .u8 b.toNat] w fun e w'=>e=.returned (.bool ([a,b].isPrefixOf (s.drop i)))/\w'=w:=by
 by_cases h:i+1<s.length
 ·have h0:i<s.length:=(by omega);rw[Zq s i h a b];have ea:=jH s i h0 a;have eb:=jH s (i+1) h b;generalize decide (s[i]=a)=qa at *;generalize decide (s[i+1]=b)=qb at *;generalize((a.toNat:Nat):Int)=x at *;generalize((b.toNat:Nat):Int)=y at *;have i0:=iZ i;have i1:(i:Int)+1<(s.length:Int):=(by omega);have i2:=jJ i s.length;cases qa with
  |false=>
   go_enter func158,ntmps158
   go_wp2_with fail;go_ret;exact⟨rfl,rfl⟩
  |true=>
   cases qb with
   |false=>
    go_enter func158,ntmps158
    go_wp2_with fail;go_ret;exact⟨rfl,rfl⟩
   |true=>
    go_enter func158,ntmps158
    go_wp2_with fail;go_ret;exact⟨rfl,rfl⟩
 ·rw[Iw (s.drop i) (by rw[aCB];omega) a b];have i1: ¬(i:Int)+1<(s.length:Int):=by omega
  clear h;generalize((a.toNat:Nat):Int)=x at *;generalize((b.toNat:Nat):Int)=y at *
  go_enter func158,ntmps158
  go_wp2_with fail;go_ret;exact⟨rfl,rfl⟩
def CY(b:UInt8):Int:=match Lx.nY b with
 |some d=>(d:Int)
 |none=> -1
theorem Kb(b:UInt8)(n:Nat)(hn:b.toNat=n):(48<=n/\n<=57/\CY b=(n:Int)-48)\/(97<=n/\n<=102/\CY b=(n:Int)-87)\/(65<=n/\n<=70/\CY b=(n:Int)-55)\/(n<48/\CY b= -1)\/(57<n/\n<65/\CY b= -1)\/(70<n/\n<97/\CY b= -1)\/(102<n/\CY b= -1):=by
 unfold CY Lx.nY;rw[hn]
 by_cases h1:48<=n/\n<=57
 ·rw[if_pos h1];simp only;omega
 ·rw[if_neg h1]
  by_cases h2:97<=n/\n<=102
  ·rw[if_pos h2];simp only;omega
  ·rw[if_neg h2]
   by_cases h3:65<=n/\n<=70
   ·rw[if_pos h3];simp only;omega
   ·rw[if_neg h3];have hw:n<48\/(57<n/\n<65)\/(70<n/\n<97)\/102<n:=by omega
    rcases hw with h|⟨h,h'⟩|⟨h,h'⟩|h
    ·exact .inr (.inr (.inr (.inl ⟨h,rfl⟩)))
    ·exact .inr (.inr (.inr (.inr (.inl ⟨h,h',rfl⟩))))
    ·exact .inr (.inr (.inr (.inr (.inr (.inl ⟨h,h',rfl⟩)))))
    ·exact .inr (.inr (.inr (.inr (.inr (.inr ⟨h,rfl⟩)))))
theorem RV(b:UInt8)(w:World):Calls aBS 235 #[.int .u8 b.toNat] w fun e w'=>e=.returned (kZZ (CY b))/\w'=w:=by
 have hlt:=b.toNat_lt;have hw:=Kb b b.toNat rfl;generalize CY b=H at *;generalize b.toNat=n at *;rcases hw with ⟨h1,h2,rfl⟩|⟨h1,h2,rfl⟩|⟨h1,h2,rfl⟩|⟨h1,rfl⟩|⟨h1,h2,rfl⟩|⟨h1,h2,rfl⟩|⟨h1,rfl⟩
 all_goals
  first|have a48:(48:Int)<=(n:Int):=by omega|have a48: ¬(48:Int)<=(n:Int):=by omega|skip
  first|have a57:(n:Int)<=57:=by omega|have a57: ¬(n:Int)<=57:=by omega|skip
  first|have a97:(97:Int)<=(n:Int):=by omega|have a97: ¬(97:Int)<=(n:Int):=by omega|skip
  first|have a102:(n:Int)<=102:=by omega|have a102: ¬(n:Int)<=102:=by omega|skip
  first|have a65:(65:Int)<=(n:Int):=by omega|have a65: ¬(65:Int)<=(n:Int):=by omega|skip
  first|have a70:(n:Int)<=70:=by omega|have a70: ¬(n:Int)<=70:=by omega|skip
  go_enter func235,ntmps235
  go_wp2_with fail;go_ret;exact⟨rfl,rfl⟩
theorem iY(c:Nat)(hc:c<100000000)(w:World):Calls aBS 157 #[kZZ c] w fun e w'=>e=.returned (.bool (Lx.dI c))/\w'=w:=by
 rcases CQ c with ⟨hr,h|h|h⟩|⟨hr,h⟩|⟨hr,h⟩|⟨hr,h⟩|⟨hr,h⟩|⟨hr,h⟩|⟨hr,h⟩|⟨hr,h⟩|⟨hr,h⟩|⟨hr,h⟩|⟨hr,h⟩
 all_goals
  rw[hr];clear hr
  first|have a97:(97:Int)<=(c:Int):=by omega|have a97: ¬(97:Int)<=(c:Int):=by omega|skip
  first|have aAD:(c:Int)<=122:=by omega|have aAD: ¬(c:Int)<=122:=by omega|skip
  first|have a65:(65:Int)<=(c:Int):=by omega|have a65: ¬(65:Int)<=(c:Int):=by omega|skip
  first|have a90:(c:Int)<=90:=by omega|have a90: ¬(c:Int)<=90:=by omega|skip
  first|have aAC:(192:Int)<=(c:Int):=by omega|have aAC: ¬(192:Int)<=(c:Int):=by omega|skip
  first|have aAB:(c:Int)<=591:=by omega|have aAB: ¬(c:Int)<=591:=by omega|skip
  first|have aAA:(880:Int)<=(c:Int):=by omega|have aAA: ¬(880:Int)<=(c:Int):=by omega|skip
  first|have Wi:(c:Int)<=1023:=by omega|have Wi: ¬(c:Int)<=1023:=by omega|skip
  first|have Wh:(1024:Int)<=(c:Int):=by omega|have Wh: ¬(1024:Int)<=(c:Int):=by omega|skip
  first|have We:(c:Int)<=1279:=by omega|have We: ¬(c:Int)<=1279:=by omega|skip
  first|have b95:((c:Int)==95)=true:=by simp;omega|have b95:((c:Int)==95)=false:=by simp;omega|skip
  first|have aAt:((c:Int) !=215)=true:=by simp;omega|have aAt:((c:Int) !=215)=false:=by simp;omega|skip
  first|have aAs:((c:Int) !=247)=true:=by simp;omega|have aAs:((c:Int) !=247)=false:=by simp;omega|skip
  clear h
  go_enter func157,ntmps157
  go_wp2_with fail;go_ret;exact⟨rfl,rfl⟩
theorem M3(w:World):Calls aBS 207 #[] w fun e w'=> ∃A:Option Addr,e=.returned (.slice A 12 12)/\Rd w' w'.heap.size 1 A Lx.words.length (mR Lx.words)/\Below w.heap.size w w':=by
 have hb:=nR w (.cells (mR Lx.words).toArray 9);have hB:aV (w.alloc (.cells (mR Lx.words).toArray 9)) w.heap.size 9 (mR Lx.words).toArray:=aV.new _ _ _
 go_enter func207,ntmps207
 go_wp2_with fail;go_ret;refine⟨_,rfl,⟨by kernel_rfl,fun _=>⟨_,_,rfl,by simp,fun j u hu=> ?_⟩⟩,hb⟩;have h:=hB.cell j;have h2:(w.alloc (.cells (mR Lx.words).toArray 9)).cell? ⟨w.heap.size,j,none⟩=(mR Lx.words)[j]? :=by simp
 rw[Nat.zero_add];exact h2.trans hu
theorem P5(x:Bs)(w:World):Calls aBS 160 #[.string ⟨x.toArray⟩] w fun e w'=>e=.returned (.bool (Lx.zK x))/\Below w.heap.size w w':=by
 have hW:=M3 w;unfold Lx.zK;have hlen:Lx.words.length=12:=rfl;generalize Lx.words=l at *;generalize hQ:l.contains x=Q;have HQ:=aB hQ;clear hQ
 go_enter func160,ntmps160
 go_wp2_with fail;refine hW.mono ?_;clear hW;rintro e w1 ⟨A,rfl,h1,hb⟩;go_wp2_with fail
 go_loop [4] (fun i=> ∃k:Nat,k<=12/\i=kZZ k/\aC (x∉l.take k)) (fun i=>12-(intOf i).toNat)
 case atStart=>exact⟨0,aBZ _,rfl,by show _∉_;simp⟩
 case round=>
  obtain⟨k,hk,rfl,H⟩:=hrel
  by_cases hlt:k<12
  ·have hlt2:k<l.length:=(by omega);obtain⟨b,o,rfl,hbB,c0⟩:=Rd.txt h1 hlt2;have i1:=iZ k;have i2:(k:Int)<12:=(by omega);have kC:aC (x≠l[k]->x∉l.take (k+1)):=fun h=>by
    rw[List.take_succ_eq_append_getElem hlt2,List.mem_append,List.mem_singleton];rintro(h2|h2)
    ·exact H.o h2
    ·exact h h2
   have Hin:aC (x=l[k]->Q=true):=fun h=>(by rw[<-HQ.o,h];simp);unfold ET at c0;generalize l[k]=y at *;clear hlt2
   by_cases hxy:x=y
   ·have hc:=aB (Hin.o hxy);subst hxy;go_wp2_with fail;go_ret;exact⟨by rw[hc.out];rfl,hb⟩
   ·have d1:(y==x)=false:=(by simp;exact fun e=>hxy e.symm);have Hn:=aB (kC.o hxy);clear hxy;go_wp2_with fail
    go_round
    case rel=>exact⟨k+1,by omega,by go_num,Hn.o⟩
    case measure=>simp[intOf];omega
  ·obtain rfl:k=12:=(by omega);have hc:aC (Q=false):=(by show _=_;rw[<-HQ.o];have:=H.o;rw[<-hlen,List.take_length] at this;simpa using this);go_wp2_with fail;go_ret;exact⟨by rw[hc.out];rfl,hb⟩
def GM:Option (Nat×Nat)->Value
 |some (c,n)=>.tuple #[kZZ c,kZZ ((n+1:Nat):Int)]
 |none=>.tuple #[kZZ 0,kZZ 0]
theorem Ta(r:Bs)(j n:Nat)(h:Lx.lU 0 (r.take j)=some n)(b:UInt8)(d:Nat)(hb:r[j]? =some b)(hd:Lx.nY b=some d):Lx.lU 0 (r.take (j+1))=some (n*16+d):=by
 rw[List.take_add_one,hb];exact Lx.yP _ _ _ _ _ h hd
theorem Ka(r:Bs)(j n:Nat)(hj:j<=Lx.mZ 6 r)(h:Lx.lU 0 (r.take j)=some n):(n:Int)<16777216:=by
 obtain⟨m,hm,hlt⟩:=Lx.RX 6 r j hj;rw[h] at hm;injection hm with hm;subst hm;have h6:=(Lx.JM 6 r).1;have h5:16^j<=16^6:=Nat.pow_le_pow_right (by omega) (by omega);have h7:(16:Nat)^6=16777216:=by decide
 rw[h7] at h5;omega
theorem PI(s:Bs)(i:Nat)(w:World)(h3:i+2<s.length)(hu:s[i+1]=117)(hb:s[i+2]=123)(hl:s.length<=100000000):
  Calls aBS 208 #[.string ⟨s.toArray⟩,kZZ i] w fun e w'=>e=.returned (GM ((Lx.oP (123::s.drop (i+3))).map fun x=>(x.1,x.2+1)))/\w'=w:=by
 generalize hr:s.drop (i+3)=r at *;have hrl:r.length=s.length-(i+3):=by rw[<-hr,aCB]
 have hget: ∀j,r[j]? =s[i+3+j]? :=fun j=>by rw[<-hr,aEY]
 have hle:=Lx.JM 6 r;have hat:=Lx.JN 6 r;have hend:=Lx.ZW 6 r;have hcr:=fun n=>Lx.Ut r n
 have hst:=Ta r;have hsm:=Ka r;generalize hC:Lx.mZ 6 r=C at *;have eu:=jH s (i+1) (by omega) 117;have en:=jH s (i+1) (by omega) 110;have et:=jH s (i+1) (by omega) 116;have eq:=jH s (i+1) (by omega) 34;have eb:=jH s (i+1) (by omega) 92;have eo:=jH s (i+2) (by omega) 123;rw[decide_eq_true hu] at eu;rw[decide_eq_false (by rw[hu];decide)] at en et eq eb;rw[decide_eq_true hb] at eo
 try unfold vZZ at eu
 rw[show(((117:UInt8).toNat:Nat):Int)=117 from rfl] at eu
 try unfold vZZ at en
 rw[show(((110:UInt8).toNat:Nat):Int)=110 from rfl] at en
 try unfold vZZ at et
 rw[show(((116:UInt8).toNat:Nat):Int)=116 from rfl] at et
 try unfold vZZ at eq
 rw[show(((34:UInt8).toNat:Nat):Int)=34 from rfl] at eq
 try unfold vZZ at eb
 rw[show(((92:UInt8).toNat:Nat):Int)=92 from rfl] at eb
 try unfold vZZ at eo
 rw[show(((123:UInt8).toNat:Nat):Int)=123 from rfl] at eo;have nu:((((⟨s.toArray⟩:ByteArray)[i+1]'(by rw[bG];omega)).toNat:Int) !=117)=false:=by rw[bne,eu];rfl
 have no:((((⟨s.toArray⟩:ByteArray)[i+2]'(by rw[bG];omega)).toNat:Int) !=123)=false:=by rw[bne,eo];rfl
 have j0:=iZ i;have j1: ¬(s.length:Int)<=(i:Int)+1:=by omega
 have j2: ¬(s.length:Int)<=(i:Int)+2:=by omega
 have j3:(i:Int)+1<(s.length:Int):=by omega
 have j4:(i:Int)+2<(s.length:Int):=by omega
 have Xa:=aB hget;have WS:=aB hat;have aAS:=aB hend;have Hcr:=aB hcr;have kC:=aB hst;have Hsm:=aB hsm;have Hrl:=aB hrl;have hC6:=hle.1;have hCl:i+3+C<=s.length:=by omega
 clear hget hat hend hcr hst hsm hle hr hC hu hb hrl;generalize hQ0:GM ((Lx.oP (123::r)).map fun x=>(x.1,x.2+1))=Q;have HQ0:=aB hQ0;clear hQ0
 go_enter func208,ntmps208
 go_wp2_with fail
 go_loop [7,8] (fun kv nv=> ∃(j:Nat) (a:Int),kv=kZZ ((i+3+j:Nat):Int)/\nv=kZZ a/\0<=a/\a<16777216/\j<=C/\aC (∃n:Nat,a=(n:Int)/\Lx.lU 0 (r.take j)=some n)) (fun kv _=>s.length-(intOf kv).toNat)
 case atStart=>exact⟨0,0,by go_num,rfl,by decide,by decide,aBZ _,0,rfl,rfl⟩
 case round=>
  obtain⟨j,a,rfl,rfl,ha0,ha1,hj,H⟩:=hrel;generalize hk:i+3+j=k at *;have k0:=iZ k
  by_cases hlt:j<C
  ·have hks:k<s.length:=(by omega);obtain⟨b,d,hb1,hd⟩:=WS.o j hlt;have hsk:s[k]=b:=(by have:=Xa.o j;rw[hb1,hk,aBY hks] at this;injection this with this;exact this.symm);have hN:aC (a*16+(d:Int)<16777216/\∃n:Nat,a*16+(d:Int)=(n:Int)/\Lx.lU 0 (r.take (j+1))=some n):=(by obtain⟨n,rfl,hn⟩:=H.o;have h4:=kC.o j n hn b d hb1 hd;have h5:=Hsm.o (j+1) _ (by omega) h4;exact⟨by omega,n*16+d,by omega,h4⟩);have hx: ∀w,Calls aBS 235 #[.int .u8 (((⟨s.toArray⟩:ByteArray)[k]'(by rw[bG];exact hks)).toNat:Int)] w fun e w'=>e=.returned (kZZ d)/\w'=w:=fun w=>(by have:=RV b w;rw[show CY b=(d:Int) by unfold CY;rw[hd]] at this;rw[show((⟨s.toArray⟩:ByteArray)[k]'(by rw[bG];exact hks)).toNat=s[k].toNat from rfl,hsk];exact this);have iq:=(Lx.xJ b d hd).2.2.2.2;have k1:=jJ k s.length;have k2:(k:Int)<(i:Int)+9:=(by omega);have k3: ¬(d:Int)<0:=(by omega);clear hb1 hsk H hd Xa WS aAS Hcr kC Hsm Hrl hC6 hCl;go_wp2_with fail;refine(hx _).mono ?_;clear hx;rintro e w' ⟨rfl,rfl⟩;go_wp2_with fail
   go_round
   case rel=>exact⟨j+1,a*16+d,by congr 1;omega,rfl,by omega,hN.out.1,by omega,hN.out.2⟩
   case measure=>simp[intOf];omega
  ·obtain rfl:j=C:=(by omega);have hcode:aC (∃n:Nat,a=(n:Int)/\Lx.oP (123::r)=if j=0\/r[j]? ≠some 125\/n>1114111\/(55296<=n/\n<=57343)then none else some (n,j+2)):=(by obtain⟨n,h4,h5⟩:=H.o;exact⟨n,h4,Hcr.o n h5⟩);have IY:(k<s.length/\j<6/\∃hks:k<s.length,Lx.nY s[k]=none)\/(k<s.length/\j=6)\/k=s.length:=by
    rcases aCN k s.length with hks|hks
    ·rcases aCN j 6 with h6|h6
     ·refine .inl ⟨hks,h6,hks,aAS.o h6 _ ?_⟩;rw[Xa.o,hk,aBY hks]
     ·exact .inr (.inl ⟨hks,by omega⟩)
    ·exact .inr (.inr (by omega))
   have jm:r[j]? =some 125↔∃hks:k<s.length,s[k]=125:=by
    rw[Xa.o,hk];constructor
    ·intro h;obtain⟨hks,hv⟩:=aCD.1 h;exact⟨hks,hv⟩
    ·rintro⟨hks,hv⟩;exact aCD.2 ⟨hks,hv⟩
   have iw:aC ((j=0/\Q=GM none)\/(j≠0/\k=s.length/\Q=GM none)\/(j≠0/\∃hks:k<s.length,(s[k]≠125/\Q=GM none)\/(s[k]=125/\((1114111<a/\Q=GM none)\/(¬1114111<a/\55296<=a/\a<=57343/\Q=GM none)\/(¬1114111<a/\¬55296<=a/\Q=.tuple #[kZZ a,kZZ ((j+2+1+1:Nat):Int)])\/(¬1114111<a/\55296<=a/\¬a<=57343/\Q=.tuple #[kZZ a,kZZ ((j+2+1+1:Nat):Int)]))))):=by
    obtain⟨n,rfl,hc⟩:=hcode.out;rw[<-HQ0.o,hc]
    by_cases h0:j=0
    ·exact .inl ⟨h0,by rw[if_pos (.inl h0)];rfl⟩
    ·by_cases hks:k<s.length
     ·refine .inr (.inr ⟨h0,hks,?_⟩)
      by_cases hv:s[k]=125
      ·refine .inr ⟨hv,?_⟩;have h1:r[j]? =some 125:=jm.2 ⟨hks,hv⟩
       by_cases hn1:1114111<n
       ·exact .inl ⟨by omega,by rw[if_pos (.inr (.inr (.inl hn1)))];rfl⟩
       ·by_cases hn2:55296<=n
        ·by_cases Xu:n<=57343
         ·exact .inr (.inl ⟨by omega,by omega,by omega,by rw[if_pos (.inr (.inr (.inr ⟨hn2,Xu⟩)))];rfl⟩)
         ·refine .inr (.inr (.inr ⟨by omega,by omega,by omega,?_⟩));rw[if_neg (by
           rintro(h|h|h|h)
           ·exact h0 h
           ·exact h h1
           ·exact hn1 h
           ·exact Xu h.2)]
          rfl
        ·refine .inr (.inr (.inl ⟨by omega,by omega,?_⟩));rw[if_neg (by
          rintro(h|h|h|h)
          ·exact h0 h
          ·exact h h1
          ·exact hn1 h
          ·exact hn2 h.1)]
         rfl
      ·refine .inl ⟨hv,?_⟩;rw[if_pos (.inr (.inl fun h=>hv (jm.1 h).2))];rfl
     ·refine .inr (.inl ⟨h0,by omega,?_⟩);rw[if_pos (.inr (.inl fun h=>hks (jm.1 h).1))];rfl
   clear jm hcode Xa WS aAS Hcr kC Hsm H Hrl HQ0;have n125: ∀hks:k<s.length,((((⟨s.toArray⟩:ByteArray)[k]'(by rw[bG];exact hks)).toNat:Int) !=125)= !decide (s[k]=125):=fun hks=>by
    have:=jH s k hks 125
    try unfold vZZ at this
    rw[show(((125:UInt8).toNat:Nat):Int)=125 from rfl] at this;rw[bne,this]
   have hx: ∀hks:k<s.length,Lx.nY s[k]=none->∀w,Calls aBS 235 #[.int .u8 (((⟨s.toArray⟩:ByteArray)[k]'(by rw[bG];exact hks)).toNat:Int)] w fun e w'=>e=.returned (kZZ (-1))/\w'=w:=fun hks hd w=>(by have:=RV s[k] w;rw[show CY s[k]= -1 by unfold CY;rw[hd]] at this;exact this);rcases iw.out with ⟨h0,hQ⟩|⟨h0,hke,hQ⟩|⟨h0,hks,hv⟩
   ·-- no digit
    have HQ:=aB hQ;clear hQ iw;have z1:((k:Int)==(i:Int)+3)=true:=(by simp;omega);rcases IY with ⟨hks,h6,_,hd⟩|⟨hks,h6⟩|hke
    ·have k1:=jJ k s.length;have k2:(k:Int)<(i:Int)+9:=(by omega);have hx:=hx hks hd;clear n125 hd;go_wp2_with fail;refine(hx _).mono ?_;rintro e w' ⟨rfl,rfl⟩;go_wp2_with fail;go_ret2;exact⟨by rw[HQ.o];rfl,rfl⟩
    ·exfalso;omega
    ·have k1: ¬(k:Int)<(s.length:Int):=(by omega);clear n125 hx;go_wp2_with fail;go_ret2;exact⟨by rw[HQ.o];rfl,rfl⟩
   ·have HQ:=aB hQ;clear hQ iw;have z1:((k:Int)==(i:Int)+3)=false:=(by simp;omega);have k1: ¬(k:Int)<(s.length:Int):=(by omega);have k2:(s.length:Int)<=(k:Int):=(by omega);clear n125 hx IY;go_wp2_with fail;go_ret2;exact⟨by rw[HQ.o];rfl,rfl⟩
   ·have z1:((k:Int)==(i:Int)+3)=false:=(by simp;omega);have k1:=jJ k s.length;have k3: ¬(s.length:Int)<=(k:Int):=(by omega);have n5:=n125 hks;clear n125;have tu:(∃(k2:(k:Int)<(i:Int)+9),∀w,Calls aBS 235 #[.int .u8 (((⟨s.toArray⟩:ByteArray)[k]'(by rw[bG];exact hks)).toNat:Int)] w fun e w'=>e=.returned (kZZ (-1))/\w'=w)\/¬(k:Int)<(i:Int)+9:=by
     rcases IY with ⟨_,h6,_,hd⟩|⟨_,h6⟩|hke
     ·exact .inl ⟨by omega,hx hks hd⟩
     ·exact .inr (by omega)
     ·exfalso;omega
    clear IY hx iw;rcases hv with ⟨hv,hQ⟩|⟨hv,hv3⟩
    ·rw[decide_eq_false hv,Bool.not_false] at n5;have HQ:=aB hQ;clear hv hQ;rcases tu with ⟨k2,hx⟩|k2
     ·go_wp2_with fail;refine(hx _).mono ?_;rintro e w' ⟨rfl,rfl⟩;go_wp2_with fail;go_ret2;exact⟨by rw[HQ.o];rfl,rfl⟩
     ·go_wp2_with fail;go_ret2;exact⟨by rw[HQ.o];rfl,rfl⟩
    ·rw[decide_eq_true hv,Bool.not_true] at n5;clear hv;rcases hv3 with ⟨m1,hQ⟩|⟨m1,m2,m3,hQ⟩|⟨m1,m2,hQ⟩|⟨m1,m2,m3,hQ⟩
     all_goals
      have HQ:=aB hQ;clear hQ;rcases tu with ⟨k2,hx⟩|k2
      ·go_wp2_with fail;refine(hx _).mono ?_;rintro e w' ⟨rfl,rfl⟩;go_wp2_with fail;go_ret2;refine⟨?_,rfl⟩;rw[HQ.o]
       first|rfl|(rw[show((j+2+1+1:Nat):Int)=(k:Int)+1-(i:Int) by omega];rfl)
      ·go_wp2_with fail;go_ret2;refine⟨?_,rfl⟩;rw[HQ.o]
       first|rfl|(rw[show((j+2+1+1:Nat):Int)=(k:Int)+1-(i:Int) by omega];rfl)
end Go.Proofs.YtcjjfeephaddcaaGreatDoor
