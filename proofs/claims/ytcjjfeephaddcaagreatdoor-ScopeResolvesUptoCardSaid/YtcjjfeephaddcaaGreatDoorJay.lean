import Derived.Test.YtcjjfeephaddcaaGreatDoorJax
set_option linter.all false
open Bool renaming and_eq_true->aCS
open Function renaming comp->aGY
open Go.Ending renaming returned->aDN
open Go.Proofs.Tryz renaming prog->aBS
open List renaming getElem?_eq_getElem->aBY,length_drop->aCB,drop_eq_getElem_cons->aDE,length->aDG,drop_drop->aDP,isPrefixOf->aEF,drop_length->aEG,getElem?_drop->aEY,drop_of_length_le->aGL
open Nat renaming lt_or_ge->aCN
open Option renaming map_map->aGX
open Prod renaming ext->aFG
set_option maxHeartbeats 64000000
set_option maxRecDepth 100000
open Go.Proofs.Tryz
namespace Go.Proofs.YtcjjfeephaddcaaGreatDoor
open Go.RowKit
variable{k:Nat}{l:List UInt8}
def pQ(c0:Nat)(l:List UInt8):Nat->Nat
 |0=>c0
 |1=>c0
 |k+2=>pQ c0 l (k+1)*64+(aF l (k+1)-128)
theorem FY(c0:Nat)(l:List UInt8)(hk:1<=k):pQ c0 l (k+1)=pQ c0 l k*64+(aF l k-128):=by
 obtain⟨k,rfl⟩: ∃m,k=m+1:=⟨k-1,by omega⟩;rfl
theorem Vz(c0:Nat)(l:List UInt8):pQ c0 l 2=c0*64+(aF l 1-128):=rfl
theorem Vy(c0:Nat)(l:List UInt8):pQ c0 l 3=(c0*64+(aF l 1-128))*64+(aF l 2-128):=rfl
theorem Vx(c0:Nat)(l:List UInt8):pQ c0 l 4=((c0*64+(aF l 1-128))*64+(aF l 2-128))*64+(aF l 3-128):=rfl
def nW(l:List UInt8)(k:Nat):Prop:=128<=aF l k/\aF l k<=191
theorem kI(hk:k<l.length):gI l k=true↔nW l k:=by
 unfold gI nW;simp[hk];omega
theorem vR(hk:l.length<=k):gI l k=false:=by
 unfold gI;have: ¬k<l.length:=by omega
 simp[this]
def iB(least c:Nat):Bool:=decide (c<least)||decide (c>1114111)||(decide (c≥55296)&&decide (c<=57343))
theorem QB(c least:Nat):(decide (c≥least)&&Utf8.valid c)= !iB least c:=by
 unfold iB Utf8.valid;rw[Bool.eq_iff_iff];simp;omega
theorem Li(h0:128<=aF l 0)(h1: ¬(194<=aF l 0/\aF l 0<=223))(h2: ¬(224<=aF l 0/\aF l 0<=239))(h3: ¬(240<=aF l 0/\aF l 0<=244))(h4:aF l 0<256):dec l=(65533,1):=by
 unfold dec;rw[if_neg (by omega)];split
 ·rename_i h;simp only[aCS,beq_iff_eq] at h;have h5:=(pY h.2).2;rw[if_neg (by omega)];rfl
 split
 ·rename_i h;simp only[aCS,beq_iff_eq] at h;omega
 split
 ·rename_i h;simp only[aCS,beq_iff_eq] at h;have h5:=(pY h.1.1.2).2;have h6:=(pY h.1.2).2;have h7:=(pY h.2).2;have h8: ¬((aF l 0%8)*262144+(aF l 1%64)*4096+(aF l 2%64)*64+aF l 3%64<=1114111):=(by omega);rw[if_neg (by unfold Utf8.valid;simp;omega)];rfl
 ·rfl
theorem Lg(h0:194<=aF l 0)(h1:aF l 0<=223)(hk:1<=k)(hkn:k<2)(hc:gI l k=false):dec l=(65533,1):=by
 have hcs:gI l 1=false:=by have:k=1:=(by omega);rcases this with rfl<;>simp[hc]
 unfold dec;rw[if_neg (by omega),if_neg,if_neg,if_neg]
 ·rfl
 ·simp only[aCS,beq_iff_eq];rintro⟨⟨⟨a,_⟩,_⟩,_⟩;omega
 ·simp only[aCS,beq_iff_eq];rintro⟨⟨a,_⟩,_⟩;omega
 ·simp only[aCS,beq_iff_eq];rintro⟨a,b⟩;simp_all
theorem Lm(h0:194<=aF l 0)(h1:aF l 0<=223)(hl:2<=l.length)(hc: ∀k,1<=k->k<2->nW l k):
  dec l=if iB 128 (pQ (aF l 0-192) l 2)then(65533,1)else(pQ (aF l 0-192) l 2,2):=by
 have c1:=hc 1 (by omega) (by omega);have d1:=(kI (l:=l) (k:=1) (by omega)).2 c1;obtain⟨p1,q1⟩:=c1;unfold dec;have e:pQ (aF l 0-192) l 2=(aF l 0%32)*64+aF l 1%64:=by have m0:aF l 0%32=aF l 0-192:=(by omega);have m1:aF l 1%64=aF l 1-128:=(by omega);rw[m0,m1,Vz]
 rw[e];rw[if_neg (by omega),if_pos (by simp[d1];omega)];have hv:iB 128 ((aF l 0%32)*64+aF l 1%64)=false:=by unfold iB;simp;omega
 rw[hv,if_pos (by omega)];rfl
theorem Lf(h0:224<=aF l 0)(h1:aF l 0<=239)(hk:1<=k)(hkn:k<3)(hc:gI l k=false):dec l=(65533,1):=by
 have hcs:gI l 1=false\/gI l 2=false:=by have:k=1\/k=2:=(by omega);rcases this with rfl|rfl<;>simp[hc]
 unfold dec;rw[if_neg (by omega),if_neg,if_neg,if_neg]
 ·rfl
 ·simp only[aCS,beq_iff_eq];rintro⟨⟨⟨a,_⟩,_⟩,_⟩;omega
 ·simp only[aCS,beq_iff_eq];rintro⟨⟨a,b⟩,c⟩;rcases hcs with h|h<;>simp_all
 ·simp only[aCS,beq_iff_eq];rintro⟨a,_⟩;omega
theorem Ll(h0:224<=aF l 0)(h1:aF l 0<=239)(hl:3<=l.length)(hc: ∀k,1<=k->k<3->nW l k):
  dec l=if iB 2048 (pQ (aF l 0-224) l 3)then(65533,1)else(pQ (aF l 0-224) l 3,3):=by
 have c1:=hc 1 (by omega) (by omega);have c2:=hc 2 (by omega) (by omega);have d1:=(kI (l:=l) (k:=1) (by omega)).2 c1;have d2:=(kI (l:=l) (k:=2) (by omega)).2 c2;obtain⟨p1,q1⟩:=c1;obtain⟨p2,q2⟩:=c2;unfold dec;have e:pQ (aF l 0-224) l 3=(aF l 0%16)*4096+(aF l 1%64)*64+aF l 2%64:=by have m0:aF l 0%16=aF l 0-224:=(by omega);have m1:aF l 1%64=aF l 1-128:=(by omega);have m2:aF l 2%64=aF l 2-128:=(by omega);rw[m0,m1,m2,Vy];omega
 rw[e];rw[if_neg (by omega),if_neg (by simp only[aCS,beq_iff_eq];rintro⟨a,_⟩;omega),if_pos (by simp[d1,d2];omega)];rw[QB];generalize(aF l 0%16)*4096+(aF l 1%64)*64+aF l 2%64=c;cases iB 2048 c<;>rfl
theorem Le(h0:240<=aF l 0)(h1:aF l 0<=244)(hk:1<=k)(hkn:k<4)(hc:gI l k=false):dec l=(65533,1):=by
 have hcs:gI l 1=false\/gI l 2=false\/gI l 3=false:=by have:k=1\/k=2\/k=3:=(by omega);rcases this with rfl|rfl|rfl<;>simp[hc]
 unfold dec;rw[if_neg (by omega),if_neg,if_neg,if_neg]
 ·rfl
 ·simp only[aCS,beq_iff_eq];rintro⟨⟨⟨a,b⟩,c⟩,d⟩;rcases hcs with h|h|h<;>simp_all
 ·simp only[aCS,beq_iff_eq];rintro⟨⟨a,_⟩,_⟩;omega
 ·simp only[aCS,beq_iff_eq];rintro⟨a,_⟩;omega
theorem Lj(h0:240<=aF l 0)(h1:aF l 0<=244)(hl:4<=l.length)(hc: ∀k,1<=k->k<4->nW l k):
  dec l=if iB 65536 (pQ (aF l 0-240) l 4)then(65533,1)else(pQ (aF l 0-240) l 4,4):=by
 have c1:=hc 1 (by omega) (by omega);have c2:=hc 2 (by omega) (by omega);have c3:=hc 3 (by omega) (by omega);have d1:=(kI (l:=l) (k:=1) (by omega)).2 c1;have d2:=(kI (l:=l) (k:=2) (by omega)).2 c2;have d3:=(kI (l:=l) (k:=3) (by omega)).2 c3;obtain⟨p1,q1⟩:=c1;obtain⟨p2,q2⟩:=c2;obtain⟨p3,q3⟩:=c3;unfold dec;have e:pQ (aF l 0-240) l 4=(aF l 0%8)*262144+(aF l 1%64)*4096+(aF l 2%64)*64+aF l 3%64:=by have m0:aF l 0%8=aF l 0-240:=(by omega);have m1:aF l 1%64=aF l 1-128:=(by omega);have m2:aF l 2%64=aF l 2-128:=(by omega);have m3:aF l 3%64=aF l 3-128:=(by omega);rw[m0,m1,m2,m3,Vx];omega
 rw[e];rw[if_neg (by omega),if_neg (by simp only[aCS,beq_iff_eq];rintro⟨a,_⟩;omega),if_neg (by simp only[aCS,beq_iff_eq];rintro⟨⟨a,_⟩,_⟩;omega),if_pos (by simp[d1,d2,d3];omega)];rw[QB];generalize(aF l 0%8)*262144+(aF l 1%64)*4096+(aF l 2%64)*64+aF l 3%64=c;cases iB 65536 c<;>rfl
theorem F9(s:ByteArray)(h:0<s.size):aF s.data.toList 0=(s[0]).toNat:=by
 unfold aF;rw[aBY (by rw[NH];exact h)];rfl
theorem Uy(s:ByteArray)(k:Nat)(h:k<s.size):aF s.data.toList k=(s[k]).toNat:=by
 unfold aF;rw[aBY (by rw[NH];exact h)];rfl
theorem vT(l:List UInt8)(k:Nat):aF l k<256:=by
 unfold aF;exact UInt8.toNat_lt _
theorem VT(c0:Nat)(l:List UInt8)(h:c0<=31): ∀k,k<=4->pQ c0 l k<=16777215:=by
 intro k hk;have h1:=vT l 1;have h2:=vT l 2;have h3:=vT l 3;have e0:pQ c0 l 0=c0:=rfl;have e1:pQ c0 l 1=c0:=rfl;have:k=0\/k=1\/k=2\/k=3\/k=4:=by omega
 rcases this with rfl|rfl|rfl|rfl|rfl<;>(try rw[Vz])<;>(try rw[Vy])<;>(try rw[Vx])<;>omega
theorem b_(s:ByteArray)(w:World)(hs:0<s.size)(h0:194<=aF s.data.toList 0)(h1:aF s.data.toList 0<=223):
  Calls aBS 69 #[.string s] w fun e w'=>e=.returned (.tuple #[kZZ (dec s.data.toList).1,kZZ (dec s.data.toList).2])/\w=w':=by
 have hst:=fun k=>Lg (l:=s.data.toList) h0 h1 (k:=k)
 have hfu:=Lm (l:=s.data.toList) h0 h1;have hac:=VT (aF s.data.toList 0-192) s.data.toList (by omega);have hb0:=F9 s hs;have kC:=aB hst;have J6:=aB hfu;have Ga:=aB hac;clear hst hfu hac;have hzz: ¬s.size=0:=by omega
 rw[hb0] at h0 h1 J6 Ga;clear hb0;generalize hb:(s[0]).toNat=a at h0 h1 J6 Ga;have hidx:s[0].toNat=a:=hb;clear hb
 by_cases hn:s.size<2
 ·have hn2:(s.size:Int)<2:=(by omega);have HD:aC (dec s.data.toList=(65533,1)):=kC.o 1 (by omega) (by omega) (vR (by rw[NH];omega));clear kC J6 Ga;rw[HD.o]
  go_enter func69,ntmps69
  go_wp2_with fail;go_ret2;exact⟨rfl,rfl⟩
 ·have hn2: ¬((s.size:Int)<2):=(by omega);have Xu:2<=s.size:=by omega
  go_enter func69,ntmps69
  go_wp2_with fail;clear hidx
  go_loop [6,8] (fun c i=> ∃k:Nat,1<=k/\k<=2/\i=kZZ k/\c=kZZ (pQ (a-192) s.data.toList k)/\aC (∀m,1<=m->m<k->nW s.data.toList m)) (fun _ i=>2-(intOf i).toNat)
  case atStart=>exact⟨1,by omega,by omega,rfl,by show _=kZZ ((a-192:Nat):Int);rw[show((a-192:Nat):Int)=(a:Int)-192 from by omega],fun m h1 h2=>by omega⟩
  case round=>
   obtain⟨k,hk1,hk2,rfl,rfl,HC⟩:=hrel;have hacc:=Ga.o k (by omega)
   by_cases hkn:k<2
   ·have hks:k<s.size:=(by omega);have hbk:=Uy s k hks;have Hs:=aB (FY (a-192) s.data.toList hk1);have hbl:=vT s.data.toList k;have HK:aC (nW s.data.toList k↔(128<=aF s.data.toList k/\aF s.data.toList k<=191)):=Iff.rfl;have HX:aC (¬nW s.data.toList k->dec s.data.toList=(65533,1)):=fun h=>kC.o k hk1 hkn (by
     cases hq:gI s.data.toList k with
     |false=>rfl
     |true=>exact absurd ((kI (by rw[NH];exact hks)).1 hq) h)
    generalize aF s.data.toList k=b at *;have uu:s[k].toNat=b:=hbk.symm;clear hbk;generalize pQ (a-192) s.data.toList k=c at *;have hkz:=iZ k
    by_cases hb1:b<128
    ·have HD:=HX.o (fun h=>by have:=HK.o.1 h;omega);have HD2:=aB HD;clear HD;go_wp2_with fail;rw[HD2.o];go_ret2;exact⟨rfl,rfl⟩
    ·by_cases hb2:191<b
     ·have HD:=HX.o (fun h=>by have:=HK.o.1 h;omega);have HD2:=aB HD;clear HD;have d1:decide ((b:Int)<128)=false:=(by simp;omega);go_wp2_with fail;rw[HD2.o];go_ret2;exact⟨rfl,rfl⟩
     ·have d1:decide ((b:Int)<128)=false:=(by simp;omega);have d2:decide ((191:Int)<(b:Int))=false:=(by simp;omega);have hcont:=HK.o.2 ⟨by omega,by omega⟩;go_wp2_with fail
      go_round
      case rel=>exact⟨k+1,by omega,by omega,by go_num,by rw[Hs.o];rw[show((c*64+(b-128):Nat):Int)=(c:Int)*64+b-128 from by omega],fun m h3 h4=>(aCN m k).elim (fun h5=>HC.o m h3 h5) (fun h5=>by have h6:m=k:=(by omega);rw[h6];exact hcont)⟩
      case measure=>simp[intOf];omega
   ·obtain rfl:k=2:=(by omega);have HD:=J6.o (by rw[NH];omega) (fun k h1 h2=>HC.o k h1 h2);have HD2:=aB HD;clear HD kC J6 HC;generalize pQ (a-192) s.data.toList 2=c at *;have hw:c<128\/(¬c<128/\1114111<c)\/(¬c<128/\¬1114111<c/\55296<=c/\c<=57343)\/(¬c<128/\¬1114111<c/\55296<=c/\¬c<=57343)\/(¬c<128/\¬1114111<c/\¬55296<=c):=(by omega);rcases hw with q1|⟨q1,q2⟩|⟨q1,q2,q3,q4⟩|⟨q1,q2,q3,q4⟩|⟨q1,q2,q3⟩
    ·have HD3:aC (dec s.data.toList=(65533,1)):=(by show _=_;rw[HD2.o,if_pos (by simp[iB,q1])]);have d1:decide ((c:Int)<128)=true:=(by simp;omega);clear HD2 q1;go_wp2_with fail;rw[HD3.o];go_ret2;exact⟨rfl,rfl⟩
    ·have HD3:aC (dec s.data.toList=(65533,1)):=(by show _=_;rw[HD2.o,if_pos (by simp[iB,q2])]);have d1:decide ((c:Int)<128)=false:=(by simp;omega);have d2:decide ((1114111:Int)<(c:Int))=true:=(by simp;omega);clear HD2 q1 q2;go_wp2_with fail;rw[HD3.o];go_ret2;exact⟨rfl,rfl⟩
    ·have HD3:aC (dec s.data.toList=(65533,1)):=(by show _=_;rw[HD2.o,if_pos (by simp[iB,q3,q4])]);have d1:decide ((c:Int)<128)=false:=(by simp;omega);have d2:decide ((1114111:Int)<(c:Int))=false:=(by simp;omega);have d3:decide ((55296:Int)<=(c:Int))=true:=(by simp;omega);have d4:decide ((c:Int)<=57343)=true:=(by simp;omega);clear HD2 q1 q2 q3 q4;go_wp2_with fail;rw[HD3.o];go_ret2;exact⟨rfl,rfl⟩
    ·have HD3:aC (dec s.data.toList=(c,2)):=(by show _=_;rw[HD2.o,if_neg (by simp[iB];omega)]);have d1:decide ((c:Int)<128)=false:=(by simp;omega);have d2:decide ((1114111:Int)<(c:Int))=false:=(by simp;omega);have d3:decide ((55296:Int)<=(c:Int))=true:=(by simp;omega);have d4:decide ((c:Int)<=57343)=false:=(by simp;omega);clear HD2 q1 q2 q3 q4;go_wp2_with fail;rw[HD3.o];go_ret2;exact⟨rfl,rfl⟩
    ·have HD3:aC (dec s.data.toList=(c,2)):=(by show _=_;rw[HD2.o,if_neg (by simp[iB];omega)]);have d1:decide ((c:Int)<128)=false:=(by simp;omega);have d2:decide ((1114111:Int)<(c:Int))=false:=(by simp;omega);have d3:decide ((55296:Int)<=(c:Int))=false:=(by simp;omega);clear HD2 q1 q2 q3;go_wp2_with fail;rw[HD3.o];go_ret2;exact⟨rfl,rfl⟩
theorem a_(s:ByteArray)(w:World)(hs:0<s.size)(h0:224<=aF s.data.toList 0)(h1:aF s.data.toList 0<=239):
  Calls aBS 69 #[.string s] w fun e w'=>e=.returned (.tuple #[kZZ (dec s.data.toList).1,kZZ (dec s.data.toList).2])/\w=w':=by
 have hst:=fun k=>Lf (l:=s.data.toList) h0 h1 (k:=k)
 have hfu:=Ll (l:=s.data.toList) h0 h1;have hac:=VT (aF s.data.toList 0-224) s.data.toList (by omega);have hb0:=F9 s hs;have kC:=aB hst;have J6:=aB hfu;have Ga:=aB hac;clear hst hfu hac;have hzz: ¬s.size=0:=by omega
 rw[hb0] at h0 h1 J6 Ga;clear hb0;generalize hb:(s[0]).toNat=a at h0 h1 J6 Ga;have hidx:s[0].toNat=a:=hb;clear hb
 by_cases hn:s.size<3
 ·have hn2:(s.size:Int)<3:=(by omega);have HD:aC (dec s.data.toList=(65533,1)):=kC.o 2 (by omega) (by omega) (vR (by rw[NH];omega));clear kC J6 Ga;rw[HD.o]
  go_enter func69,ntmps69
  go_wp2_with fail;go_ret2;exact⟨rfl,rfl⟩
 ·have hn2: ¬((s.size:Int)<3):=(by omega);have Xu:3<=s.size:=by omega
  go_enter func69,ntmps69
  go_wp2_with fail;clear hidx
  go_loop [6,8] (fun c i=> ∃k:Nat,1<=k/\k<=3/\i=kZZ k/\c=kZZ (pQ (a-224) s.data.toList k)/\aC (∀m,1<=m->m<k->nW s.data.toList m)) (fun _ i=>3-(intOf i).toNat)
  case atStart=>exact⟨1,by omega,by omega,rfl,by show _=kZZ ((a-224:Nat):Int);rw[show((a-224:Nat):Int)=(a:Int)-224 from by omega],fun m h1 h2=>by omega⟩
  case round=>
   obtain⟨k,hk1,hk2,rfl,rfl,HC⟩:=hrel;have hacc:=Ga.o k (by omega)
   by_cases hkn:k<3
   ·have hks:k<s.size:=(by omega);have hbk:=Uy s k hks;have Hs:=aB (FY (a-224) s.data.toList hk1);have hbl:=vT s.data.toList k;have HK:aC (nW s.data.toList k↔(128<=aF s.data.toList k/\aF s.data.toList k<=191)):=Iff.rfl;have HX:aC (¬nW s.data.toList k->dec s.data.toList=(65533,1)):=fun h=>kC.o k hk1 hkn (by
     cases hq:gI s.data.toList k with
     |false=>rfl
     |true=>exact absurd ((kI (by rw[NH];exact hks)).1 hq) h)
    generalize aF s.data.toList k=b at *;have uu:s[k].toNat=b:=hbk.symm;clear hbk;generalize pQ (a-224) s.data.toList k=c at *;have hkz:=iZ k
    by_cases hb1:b<128
    ·have HD:=HX.o (fun h=>by have:=HK.o.1 h;omega);have HD2:=aB HD;clear HD;go_wp2_with fail;rw[HD2.o];go_ret2;exact⟨rfl,rfl⟩
    ·by_cases hb2:191<b
     ·have HD:=HX.o (fun h=>by have:=HK.o.1 h;omega);have HD2:=aB HD;clear HD;have d1:decide ((b:Int)<128)=false:=(by simp;omega);go_wp2_with fail;rw[HD2.o];go_ret2;exact⟨rfl,rfl⟩
     ·have d1:decide ((b:Int)<128)=false:=(by simp;omega);have d2:decide ((191:Int)<(b:Int))=false:=(by simp;omega);have hcont:=HK.o.2 ⟨by omega,by omega⟩;go_wp2_with fail
      go_round
      case rel=>exact⟨k+1,by omega,by omega,by go_num,by rw[Hs.o];rw[show((c*64+(b-128):Nat):Int)=(c:Int)*64+b-128 from by omega],fun m h3 h4=>(aCN m k).elim (fun h5=>HC.o m h3 h5) (fun h5=>by have h6:m=k:=(by omega);rw[h6];exact hcont)⟩
      case measure=>simp[intOf];omega
   ·obtain rfl:k=3:=(by omega);have HD:=J6.o (by rw[NH];omega) (fun k h1 h2=>HC.o k h1 h2);have HD2:=aB HD;clear HD kC J6 HC;generalize pQ (a-224) s.data.toList 3=c at *;have hw:c<2048\/(¬c<2048/\1114111<c)\/(¬c<2048/\¬1114111<c/\55296<=c/\c<=57343)\/(¬c<2048/\¬1114111<c/\55296<=c/\¬c<=57343)\/(¬c<2048/\¬1114111<c/\¬55296<=c):=(by omega);rcases hw with q1|⟨q1,q2⟩|⟨q1,q2,q3,q4⟩|⟨q1,q2,q3,q4⟩|⟨q1,q2,q3⟩
    ·have HD3:aC (dec s.data.toList=(65533,1)):=(by show _=_;rw[HD2.o,if_pos (by simp[iB,q1])]);have d1:decide ((c:Int)<2048)=true:=(by simp;omega);clear HD2 q1;go_wp2_with fail;rw[HD3.o];go_ret2;exact⟨rfl,rfl⟩
    ·have HD3:aC (dec s.data.toList=(65533,1)):=(by show _=_;rw[HD2.o,if_pos (by simp[iB,q2])]);have d1:decide ((c:Int)<2048)=false:=(by simp;omega);have d2:decide ((1114111:Int)<(c:Int))=true:=(by simp;omega);clear HD2 q1 q2;go_wp2_with fail;rw[HD3.o];go_ret2;exact⟨rfl,rfl⟩
    ·have HD3:aC (dec s.data.toList=(65533,1)):=(by show _=_;rw[HD2.o,if_pos (by simp[iB,q3,q4])]);have d1:decide ((c:Int)<2048)=false:=(by simp;omega);have d2:decide ((1114111:Int)<(c:Int))=false:=(by simp;omega);have d3:decide ((55296:Int)<=(c:Int))=true:=(by simp;omega);have d4:decide ((c:Int)<=57343)=true:=(by simp;omega);clear HD2 q1 q2 q3 q4;go_wp2_with fail;rw[HD3.o];go_ret2;exact⟨rfl,rfl⟩
    ·have HD3:aC (dec s.data.toList=(c,3)):=(by show _=_;rw[HD2.o,if_neg (by simp[iB];omega)]);have d1:decide ((c:Int)<2048)=false:=(by simp;omega);have d2:decide ((1114111:Int)<(c:Int))=false:=(by simp;omega);have d3:decide ((55296:Int)<=(c:Int))=true:=(by simp;omega);have d4:decide ((c:Int)<=57343)=false:=(by simp;omega);clear HD2 q1 q2 q3 q4;go_wp2_with fail;rw[HD3.o];go_ret2;exact⟨rfl,rfl⟩
    ·have HD3:aC (dec s.data.toList=(c,3)):=(by show _=_;rw[HD2.o,if_neg (by simp[iB];omega)]);have d1:decide ((c:Int)<2048)=false:=(by simp;omega);have d2:decide ((1114111:Int)<(c:Int))=false:=(by simp;omega);have d3:decide ((55296:Int)<=(c:Int))=false:=(by simp;omega);clear HD2 q1 q2 q3;go_wp2_with fail;rw[HD3.o];go_ret2;exact⟨rfl,rfl⟩
theorem zz(s:ByteArray)(w:World)(hs:0<s.size)(h0:240<=aF s.data.toList 0)(h1:aF s.data.toList 0<=244):
  Calls aBS 69 #[.string s] w fun e w'=>e=.returned (.tuple #[kZZ (dec s.data.toList).1,kZZ (dec s.data.toList).2])/\w=w':=by
 have hst:=fun k=>Le (l:=s.data.toList) h0 h1 (k:=k)
 have hfu:=Lj (l:=s.data.toList) h0 h1;have hac:=VT (aF s.data.toList 0-240) s.data.toList (by omega);have hb0:=F9 s hs;have kC:=aB hst;have J6:=aB hfu;have Ga:=aB hac;clear hst hfu hac;have hzz: ¬s.size=0:=by omega
 rw[hb0] at h0 h1 J6 Ga;clear hb0;generalize hb:(s[0]).toNat=a at h0 h1 J6 Ga;have hidx:s[0].toNat=a:=hb;clear hb
 by_cases hn:s.size<4
 ·have hn2:(s.size:Int)<4:=(by omega);have HD:aC (dec s.data.toList=(65533,1)):=kC.o 3 (by omega) (by omega) (vR (by rw[NH];omega));clear kC J6 Ga;rw[HD.o]
  go_enter func69,ntmps69
  go_wp2_with fail;go_ret2;exact⟨rfl,rfl⟩
 ·have hn2: ¬((s.size:Int)<4):=(by omega);have Xu:4<=s.size:=by omega
  go_enter func69,ntmps69
  go_wp2_with fail;clear hidx
  go_loop [6,8] (fun c i=> ∃k:Nat,1<=k/\k<=4/\i=kZZ k/\c=kZZ (pQ (a-240) s.data.toList k)/\aC (∀m,1<=m->m<k->nW s.data.toList m)) (fun _ i=>4-(intOf i).toNat)
  case atStart=>exact⟨1,by omega,by omega,rfl,by show _=kZZ ((a-240:Nat):Int);rw[show((a-240:Nat):Int)=(a:Int)-240 from by omega],fun m h1 h2=>by omega⟩
  case round=>
   obtain⟨k,hk1,hk2,rfl,rfl,HC⟩:=hrel;have hacc:=Ga.o k (by omega)
   by_cases hkn:k<4
   ·have hks:k<s.size:=(by omega);have hbk:=Uy s k hks;have Hs:=aB (FY (a-240) s.data.toList hk1);have hbl:=vT s.data.toList k;have HK:aC (nW s.data.toList k↔(128<=aF s.data.toList k/\aF s.data.toList k<=191)):=Iff.rfl;have HX:aC (¬nW s.data.toList k->dec s.data.toList=(65533,1)):=fun h=>kC.o k hk1 hkn (by
     cases hq:gI s.data.toList k with
     |false=>rfl
     |true=>exact absurd ((kI (by rw[NH];exact hks)).1 hq) h)
    generalize aF s.data.toList k=b at *;have uu:s[k].toNat=b:=hbk.symm;clear hbk;generalize pQ (a-240) s.data.toList k=c at *;have hkz:=iZ k
    by_cases hb1:b<128
    ·have HD:=HX.o (fun h=>by have:=HK.o.1 h;omega);have HD2:=aB HD;clear HD;go_wp2_with fail;rw[HD2.o];go_ret2;exact⟨rfl,rfl⟩
    ·by_cases hb2:191<b
     ·have HD:=HX.o (fun h=>by have:=HK.o.1 h;omega);have HD2:=aB HD;clear HD;have d1:decide ((b:Int)<128)=false:=(by simp;omega);go_wp2_with fail;rw[HD2.o];go_ret2;exact⟨rfl,rfl⟩
     ·have d1:decide ((b:Int)<128)=false:=(by simp;omega);have d2:decide ((191:Int)<(b:Int))=false:=(by simp;omega);have hcont:=HK.o.2 ⟨by omega,by omega⟩;go_wp2_with fail
      go_round
      case rel=>exact⟨k+1,by omega,by omega,by go_num,by rw[Hs.o];rw[show((c*64+(b-128):Nat):Int)=(c:Int)*64+b-128 from by omega],fun m h3 h4=>(aCN m k).elim (fun h5=>HC.o m h3 h5) (fun h5=>by have h6:m=k:=(by omega);rw[h6];exact hcont)⟩
      case measure=>simp[intOf];omega
   ·obtain rfl:k=4:=(by omega);have HD:=J6.o (by rw[NH];omega) (fun k h1 h2=>HC.o k h1 h2);have HD2:=aB HD;clear HD kC J6 HC;generalize pQ (a-240) s.data.toList 4=c at *;have hw:c<65536\/(¬c<65536/\1114111<c)\/(¬c<65536/\¬1114111<c/\55296<=c/\c<=57343)\/(¬c<65536/\¬1114111<c/\55296<=c/\¬c<=57343)\/(¬c<65536/\¬1114111<c/\¬55296<=c):=(by omega);rcases hw with q1|⟨q1,q2⟩|⟨q1,q2,q3,q4⟩|⟨q1,q2,q3,q4⟩|⟨q1,q2,q3⟩
    ·have HD3:aC (dec s.data.toList=(65533,1)):=(by show _=_;rw[HD2.o,if_pos (by simp[iB,q1])]);have d1:decide ((c:Int)<65536)=true:=(by simp;omega);clear HD2 q1;go_wp2_with fail;rw[HD3.o];go_ret2;exact⟨rfl,rfl⟩
    ·have HD3:aC (dec s.data.toList=(65533,1)):=(by show _=_;rw[HD2.o,if_pos (by simp[iB,q2])]);have d1:decide ((c:Int)<65536)=false:=(by simp;omega);have d2:decide ((1114111:Int)<(c:Int))=true:=(by simp;omega);clear HD2 q1 q2;go_wp2_with fail;rw[HD3.o];go_ret2;exact⟨rfl,rfl⟩
    ·have HD3:aC (dec s.data.toList=(65533,1)):=(by show _=_;rw[HD2.o,if_pos (by simp[iB,q3,q4])]);have d1:decide ((c:Int)<65536)=false:=(by simp;omega);have d2:decide ((1114111:Int)<(c:Int))=false:=(by simp;omega);have d3:decide ((55296:Int)<=(c:Int))=true:=(by simp;omega);have d4:decide ((c:Int)<=57343)=true:=(by simp;omega);clear HD2 q1 q2 q3 q4;go_wp2_with fail;rw[HD3.o];go_ret2;exact⟨rfl,rfl⟩
    ·have HD3:aC (dec s.data.toList=(c,4)):=(by show _=_;rw[HD2.o,if_neg (by simp[iB];omega)]);have d1:decide ((c:Int)<65536)=false:=(by simp;omega);have d2:decide ((1114111:Int)<(c:Int))=false:=(by simp;omega);have d3:decide ((55296:Int)<=(c:Int))=true:=(by simp;omega);have d4:decide ((c:Int)<=57343)=false:=(by simp;omega);clear HD2 q1 q2 q3 q4;go_wp2_with fail;rw[HD3.o];go_ret2;exact⟨rfl,rfl⟩
    ·have HD3:aC (dec s.data.toList=(c,4)):=(by show _=_;rw[HD2.o,if_neg (by simp[iB];omega)]);have d1:decide ((c:Int)<65536)=false:=(by simp;omega);have d2:decide ((1114111:Int)<(c:Int))=false:=(by simp;omega);have d3:decide ((55296:Int)<=(c:Int))=false:=(by simp;omega);clear HD2 q1 q2 q3;go_wp2_with fail;rw[HD3.o];go_ret2;exact⟨rfl,rfl⟩
theorem P9(s:ByteArray)(w:World)(hs:0<s.size):
  Calls aBS 69 #[.string s] w fun e w'=>e=.returned (.tuple #[kZZ (dec s.data.toList).1,kZZ (dec s.data.toList).2])/\w=w':=by
 have hlt:=vT s.data.toList 0
 by_cases h0:aF s.data.toList 0<128
 ·have HD:aC (dec s.data.toList=(aF s.data.toList 0,1)):=(by show dec _=_;unfold dec;rw[if_pos h0]);have hb0:=F9 s hs;generalize aF s.data.toList 0=a at *;have hidx:s[0].toNat=a:=hb0.symm;have hzz: ¬s.size=0:=(by omega);clear hb0;rw[HD.o]
  go_enter func69,ntmps69
  go_wp2_with fail;go_ret2;exact⟨rfl,rfl⟩
 by_cases h2:194<=aF s.data.toList 0/\aF s.data.toList 0<=223
 ·exact b_ s w hs h2.1 h2.2
 by_cases h3:224<=aF s.data.toList 0/\aF s.data.toList 0<=239
 ·exact a_ s w hs h3.1 h3.2
 by_cases h4:240<=aF s.data.toList 0/\aF s.data.toList 0<=244
 ·exact zz s w hs h4.1 h4.2
 have HD:aC (dec s.data.toList=(65533,1)):=Li (by omega) h2 h3 h4 hlt;have hw:aF s.data.toList 0<194\/244<aF s.data.toList 0:=by omega
 have hb0:=F9 s hs;generalize aF s.data.toList 0=a at *;have hidx:s[0].toNat=a:=hb0.symm;have hzz: ¬s.size=0:=by omega
 clear hb0 h2 h3 h4;rw[HD.o];rcases hw with q|q
 ·have d1:decide ((194:Int)<=(a:Int))=false:=(by simp;omega);have d2:decide ((224:Int)<=(a:Int))=false:=(by simp;omega);have d3:decide ((240:Int)<=(a:Int))=false:=by simp;omega
  go_enter func69,ntmps69
  go_wp2_with fail;go_ret2;exact⟨rfl,rfl⟩
 ·have d1:decide ((194:Int)<=(a:Int))=true:=(by simp;omega);have d2:decide ((224:Int)<=(a:Int))=true:=(by simp;omega);have d3:decide ((240:Int)<=(a:Int))=true:=(by simp;omega);have d4:decide ((a:Int)<=223)=false:=(by simp;omega);have d5:decide ((a:Int)<=239)=false:=(by simp;omega);have d6:decide ((a:Int)<=244)=false:=by simp;omega
  go_enter func69,ntmps69
  go_wp2_with fail;go_ret2;exact⟨rfl,rfl⟩
theorem Uj(s:Bs)(i:Nat)(h:i+1<s.length):Lx.JB (s.drop (i+1))=if s[i+1]=110 then some (10,1)else if s[i+1]=116 then some (9,1)else if s[i+1]=34\/s[i+1]=92 then some (s[i+1].toNat,1)else if s[i+1]=117 then(Lx.oP (s.drop (i+2))).map fun x=>(x.1,x.2+1)else none:=by
 rw[aDE h];rfl
theorem byte_of{s:Bs}(h:k<s.length){a:UInt8}(e:s[k]=a):(((⟨s.toArray⟩:ByteArray)[k]'(by rw[bG];exact h)).toNat:Int)=(a.toNat:Int):=by
 rw[show((⟨s.toArray⟩:ByteArray)[k]'(by rw[bG];exact h)).toNat=s[k].toNat from rfl,e]
theorem Ir(s:Bs)(i:Nat)(w:World)(hi:i<s.length)(hl:s.length<=100000000):
  Calls aBS 208 #[.string ⟨s.toArray⟩,kZZ i] w fun e w'=>e=.returned (GM (Lx.JB (s.drop (i+1))))/\w'=w:=by
 have j0:=iZ i
 by_cases h1:i+1<s.length
 ·have j3:(i:Int)+1<(s.length:Int):=(by omega);have j1: ¬(s.length:Int)<=(i:Int)+1:=(by omega);rw[Uj s i h1];have en:=jH s (i+1) h1 110;have et:=jH s (i+1) h1 116;have eq:=jH s (i+1) h1 34;have eb:=jH s (i+1) h1 92;have eu:=jH s (i+1) h1 117
  try unfold vZZ at eu
  rw[show(((117:UInt8).toNat:Nat):Int)=117 from rfl] at eu
  try unfold vZZ at en
  rw[show(((110:UInt8).toNat:Nat):Int)=110 from rfl] at en
  try unfold vZZ at et
  rw[show(((116:UInt8).toNat:Nat):Int)=116 from rfl] at et
  try unfold vZZ at eq
  rw[show(((34:UInt8).toNat:Nat):Int)=34 from rfl] at eq
  try unfold vZZ at eb
  rw[show(((92:UInt8).toNat:Nat):Int)=92 from rfl] at eb;have hby:(((⟨s.toArray⟩:ByteArray)[i+1]'(by rw[bG];exact h1)).toNat:Int)<256:=by have:=UInt8.toNat_lt ((⟨s.toArray⟩:ByteArray)[i+1]'(by rw[bG];exact h1));omega
  by_cases g1:s[i+1]=110
  ·rw[if_pos g1];rw[decide_eq_true g1] at en;clear et eq eb eu g1
   go_enter func208,ntmps208
   go_wp2_with fail;go_ret2;exact⟨rfl,rfl⟩
  ·rw[if_neg g1];rw[decide_eq_false g1] at en
   by_cases g2:s[i+1]=116
   ·rw[if_pos g2];rw[decide_eq_true g2] at et;clear eq eb eu g1 g2
    go_enter func208,ntmps208
    go_wp2_with fail;go_ret2;exact⟨rfl,rfl⟩
   ·rw[if_neg g2];rw[decide_eq_false g2] at et
    by_cases g3:s[i+1]=34
    ·rw[if_pos (.inl g3)];rw[decide_eq_true g3] at eq;have hv:=aB (byte_of h1 g3);rw[g3];clear eb eu g1 g2 g3
     go_enter func208,ntmps208
     go_wp2_with fail;go_ret2;exact⟨by rw[hv.out];rfl,rfl⟩
    ·rw[decide_eq_false g3] at eq
     by_cases g4:s[i+1]=92
     ·rw[if_pos (.inr g4)];rw[decide_eq_true g4] at eb;have hv:=aB (byte_of h1 g4);rw[g4];clear eu g1 g2 g3 g4
      go_enter func208,ntmps208
      go_wp2_with fail;go_ret2;exact⟨by rw[hv.out];rfl,rfl⟩
     ·rw[decide_eq_false g4] at eb;rw[if_neg (by rintro(h|h);exact g3 h;exact g4 h)]
      by_cases g5:s[i+1]=117
      ·rw[if_pos g5]
       by_cases h2:i+2<s.length
       ·by_cases g6:s[i+2]=123
        ·have:=PI s i w h2 g5 g6 hl;rw[aDE h2,g6];exact this
        ·rw[Lx.VO (s.drop (i+2)) (by rw[aDE h2];intro e;injection e with e;exact g6 e)];have eo:=jH s (i+2) h2 123
         try unfold vZZ at eo
         rw[show(((123:UInt8).toNat:Nat):Int)=123 from rfl,decide_eq_false g6] at eo;rw[decide_eq_true g5] at eu;have nu:((((⟨s.toArray⟩:ByteArray)[i+1]'(by rw[bG];omega)).toNat:Int) !=117)=false:=by rw[bne,eu];rfl
         have no:((((⟨s.toArray⟩:ByteArray)[i+2]'(by rw[bG];omega)).toNat:Int) !=123)=true:=(by rw[bne,eo];rfl);have j4:(i:Int)+2<(s.length:Int):=(by omega);have j2: ¬(s.length:Int)<=(i:Int)+2:=(by omega);clear g1 g2 g3 g4 g5 g6 eo eu
         go_enter func208,ntmps208
         go_wp2_with fail;go_ret2;exact⟨rfl,rfl⟩
       ·rw[Lx.VO (s.drop (i+2)) (by rw[aGL (by omega)];simp)];rw[decide_eq_true g5] at eu;have nu:((((⟨s.toArray⟩:ByteArray)[i+1]'(by rw[bG];omega)).toNat:Int) !=117)=false:=by rw[bne,eu];rfl
        have j2:(s.length:Int)<=(i:Int)+2:=(by omega);clear g1 g2 g3 g4 g5 eu
        go_enter func208,ntmps208
        go_wp2_with fail;go_ret2;exact⟨rfl,rfl⟩
      ·rw[if_neg g5];rw[decide_eq_false g5] at eu;have nu:((((⟨s.toArray⟩:ByteArray)[i+1]'(by rw[bG];omega)).toNat:Int) !=117)=true:=by rw[bne,eu];rfl
       clear g1 g2 g3 g4 g5 eu
       go_enter func208,ntmps208
       go_wp2_with fail;go_ret2;exact⟨rfl,rfl⟩
 ·rw[aGL (by omega)];have j1:(s.length:Int)<=(i:Int)+1:=by omega
  clear h1
  go_enter func208,ntmps208
  go_wp2_with fail;go_ret2;exact⟨rfl,rfl⟩
theorem pV(s:Bs)(k:Nat)(hk:k<s.length)(w:World):Calls aBS 69 #[.string ((⟨s.toArray⟩:ByteArray).extract k s.length)] w fun e w'=>e=.returned (.tuple #[kZZ (dec (s.drop k)).1,kZZ (dec (s.drop k)).2])/\w'=w:=by
 rw[show Value.string ((⟨s.toArray⟩:ByteArray).extract k s.length)=.string ⟨(s.drop k).toArray⟩from qI s k];refine(P9 ⟨(s.drop k).toArray⟩ w (by rw[bG,aCB];omega)).mono fun e w' h=>⟨h.1,h.2.symm⟩
def Dv:Bool->Int
 |true=>6
 |false=>8
def qx(i:Nat)(X:Nat×Bool×Bool):Value:=.tuple #[kZZ ((i+1+X.1:Nat):Int),kZZ (Dv (X.2.1&&X.2.2))]
theorem YA(s:Bs)(i:Nat)(w:World)(hi:i<s.length)(hl:s.length<=100000000):
  Calls aBS 161 #[.string ⟨s.toArray⟩,kZZ i] w fun e w'=>e=.returned (qx i (Lx.jL (s.drop (i+1))))/\w'=w:=by
 generalize hX:Lx.jL (s.drop (i+1))=X;have HX:aC (X=Lx.bU true (s.drop (i+1))):=by show _=_;rw[<-hX];rfl
 clear hX
 go_enter func161,ntmps161
 go_wp2_with fail
 go_loop [1,6] (fun iv kv=> ∃(k:Nat) (b:Bool),iv=kZZ k/\kv=kZZ (Dv b)/\i+1<=k/\k<=s.length/\aC (X=((Lx.bU b (s.drop k)).1+(k-(i+1)),(Lx.bU b (s.drop k)).2))) (fun iv _=>s.length-(intOf iv).toNat)
 case atStart=>exact⟨i+1,true,by go_num,rfl,by omega,by omega,by show _=_;rw[HX.o];simp⟩
 case round=>
  obtain⟨k,b,rfl,rfl,hk1,hk2,H⟩:=hrel;have i0:=iZ k
  by_cases hlt:k<s.length
  ·have i1:=jJ k s.length;have hdk:s.drop k=s[k]::s.drop (k+1):=aDE hlt;have e10:=jH s k hlt 10;have e34:=jH s k hlt 34;have VM:=jH s k hlt 92
   try unfold vZZ at e10
   rw[show(((10:UInt8).toNat:Nat):Int)=10 from rfl] at e10
   try unfold vZZ at e34
   rw[show(((34:UInt8).toNat:Nat):Int)=34 from rfl] at e34
   try unfold vZZ at VM
   rw[show(((92:UInt8).toNat:Nat):Int)=92 from rfl] at VM;have Hd:=aB hdk;clear hdk
   by_cases g1:s[k]=10
   ·rw[decide_eq_true g1] at e10;have n10:((((⟨s.toArray⟩:ByteArray)[k]'(by rw[bG];exact hlt)).toNat:Int) !=10)=false:=by rw[bne,e10];rfl
    have hE:aC (X=(0+(k-(i+1)),false,b)):=(by show _=_;have h2:=H.o;rw[Hd.o,g1,Lx.yD] at h2;exact h2);clear e34 VM e10 g1 H HX;go_wp2_with fail;go_ret2;rw[hE.out];refine⟨?_,rfl⟩;show _=aDN (.tuple #[kZZ ((i+1+(0+(k-(i+1))):Nat):Int),kZZ 8]);rw[show((i+1+(0+(k-(i+1))):Nat):Int)=(k:Int) by omega];rfl
   ·rw[decide_eq_false g1] at e10;have n10:((((⟨s.toArray⟩:ByteArray)[k]'(by rw[bG];exact hlt)).toNat:Int) !=10)=true:=by rw[bne,e10];rfl
    by_cases g2:s[k]=34
    ·rw[decide_eq_true g2] at e34;have hE:aC (X=(1+(k-(i+1)),true,b)):=by show _=_;have h2:=H.o;rw[Hd.o,g2,Lx.zX] at h2;exact h2
     clear VM e10 g1 g2 H HX;go_wp2_with fail;go_ret2;rw[hE.out];refine⟨?_,rfl⟩;show _=aDN (.tuple #[kZZ ((i+1+(1+(k-(i+1))):Nat):Int),kZZ (Dv (true&&b))]);rw[show((i+1+(1+(k-(i+1))):Nat):Int)=(k:Int)+1 by omega];rfl
    ·rw[decide_eq_false g2] at e34
     by_cases g3:s[k]=92
     ·rw[decide_eq_true g3] at VM;have hes:=Ir s k w hlt hl;cases vP:Lx.JB (s.drop (k+1))with
      |some x=>
       obtain⟨c,n⟩:=x;obtain⟨q1,q2,_⟩:=Lx.Ah _ _ _ vP;rw[aCB] at q2;have hE:aC (X=((Lx.bU b (s.drop (k+1+n))).1+(k+1+n-(i+1)),(Lx.bU b (s.drop (k+1+n))).2)):=(by show _=_;have h2:=H.o;rw[Hd.o,g3,Lx.EO b _ c n vP,aDP] at h2;rw[h2];refine aFG ?_ rfl;simp only;omega);rw[vP] at hes;have hes:Calls aBS 208 _ w fun e w'=>e=.returned (.tuple #[kZZ c,kZZ ((n+1:Nat):Int)])/\w'=w:=hes
       have n0:(0:Int)<((n+1:Nat):Int):=(by omega);clear e10 g1 g2 g3 H HX vP Hd;go_wp2_with fail;refine hes.mono ?_;clear hes;rintro e w2 ⟨rfl,rfl⟩;go_wp2_with fail
       go_round
       case rel=>exact⟨k+1+n,b,by congr 1;omega,rfl,by omega,by omega,hE⟩
       case measure=>simp[intOf];omega
      |none=>
       rw[vP] at hes;have hes:Calls aBS 208 _ w fun e w'=>e=.returned (.tuple #[kZZ 0,kZZ 0])/\w'=w:=hes
       have h2:=H.o;rw[Hd.o,g3,Lx.EP b _ vP _ rfl] at h2
       by_cases hend:k+1<s.length
       ·have hne:s.drop (k+1)≠ []:=(by intro e;have:=congrArg aDG e;simp at this;omega);have hd:=fun w=>pV s (k+1) hend w
        have hsz:=(kQ (s.drop (k+1))).1;have hle:=xO (s.drop (k+1)) hne;rw[aCB] at hle;have hby:aF (s.drop (k+1)) 0=s[k+1].toNat:=(by unfold aF;rw[aEY];show(s[k+1]?.getD 0).toNat=_;rw[aBY hend];rfl);have Gg:=jH s (k+1) hend 10
        try unfold vZZ at Gg
        rw[show(((10:UInt8).toNat:Nat):Int)=10 from rfl] at Gg;have j2:(k:Int)+1<(s.length:Int):=by omega
        by_cases wF:s[k+1]=10
        ·rw[decide_eq_true wF] at Gg;rw[if_pos (.inr (by rw[hby,wF];rfl)),List.drop_zero,aDE hend,wF,Lx.yD] at h2;have hE:aC (X=(0+(1+0)+(k-(i+1)),false,false)):=h2;clear e10 g1 g2 g3 H HX vP Hd h2 hle hby wF hne hd hsz;go_wp2_with fail;refine hes.mono ?_;clear hes;rintro e w2 ⟨rfl,rfl⟩;go_wp2_with fail;go_ret2;rw[hE.out];refine⟨?_,rfl⟩;show _=aDN (.tuple #[kZZ ((i+1+(0+(1+0)+(k-(i+1))):Nat):Int),kZZ 8]);rw[show((i+1+(0+(1+0)+(k-(i+1))):Nat):Int)=(k:Int)+1 by omega];rfl
        ·rw[decide_eq_false wF] at Gg;rw[if_neg (by
          rintro(h|h)
          ·exact hne (List.isEmpty_iff.1 h)
          ·rw[hby] at h;exact wF (UInt8.toNat_inj.1 (show s[k+1].toNat=10 from h))),aDP] at h2
         have hE:aC (X=((Lx.bU false (s.drop (k+1+(dec (s.drop (k+1))).2))).1+(k+1+(dec (s.drop (k+1))).2-(i+1)),(Lx.bU false (s.drop (k+1+(dec (s.drop (k+1))).2))).2)):=(by show _=_;rw[h2];refine aFG ?_ rfl;simp only;omega);generalize dec (s.drop (k+1))=D at *;obtain⟨c,z⟩:=D;simp only at hd hsz hle hE;have Fx:=aB hd;clear e10 g1 g2 g3 H HX vP Hd h2 hby wF hne hd;go_wp2_with fail;refine hes.mono ?_;clear hes;rintro e w2 ⟨rfl,rfl⟩;go_wp2_with fail;refine(Fx.o _).mono ?_;clear Fx;rintro e w3 ⟨rfl,rfl⟩;go_wp2_with fail
         go_round
         case rel=>exact⟨k+1+z,false,by go_num,rfl,by omega,by omega,hE⟩
         case measure=>simp[intOf];omega
       ·have he0:s.drop (k+1)=[]:=aGL (by omega);rw[he0,if_pos (.inl rfl),List.drop_nil,Lx.yC] at h2;have hE:aC (X=(0+(1+0)+(k-(i+1)),false,false)):=h2;have j2:(s.length:Int)<=(k:Int)+1:=(by omega);clear e10 g1 g2 g3 H HX vP Hd h2 he0 hend;go_wp2_with fail;refine hes.mono ?_;clear hes;rintro e w2 ⟨rfl,rfl⟩;go_wp2_with fail;go_ret2;rw[hE.out];refine⟨?_,rfl⟩;show _=aDN (.tuple #[kZZ ((i+1+(0+(1+0)+(k-(i+1))):Nat):Int),kZZ 8]);rw[show((i+1+(0+(1+0)+(k-(i+1))):Nat):Int)=(k:Int)+1 by omega];rfl
     ·rw[decide_eq_false g3] at VM;have hne:s.drop k≠ []:=by intro e;have:=congrArg aDG e;simp at this;omega
      have hE:aC (X=((Lx.bU b (s.drop (k+(dec (s.drop k)).2))).1+(k+(dec (s.drop k)).2-(i+1)),(Lx.bU b (s.drop (k+(dec (s.drop k)).2))).2)):=(by show _=_;have h2:=H.o;rw[Lx.N9 b (s.drop k) ⟨s[k],by rw[aEY];exact aBY hlt,g1,g2,g3⟩,aDP] at h2;rw[h2];refine aFG ?_ rfl;simp only;omega);have hd:=fun w=>pV s k hlt w
      have hsz:=(kQ (s.drop k)).1;have hle:=xO (s.drop k) hne;rw[aCB] at hle;generalize dec (s.drop k)=D at *;obtain⟨c,z⟩:=D;simp only at hd hsz hle hE;have Fx:=aB hd;clear e10 g1 g2 g3 H HX Hd hne hd;go_wp2_with fail;refine(Fx.o _).mono ?_;clear Fx;rintro e w3 ⟨rfl,rfl⟩;go_wp2_with fail
      go_round
      case rel=>exact⟨k+z,b,by go_num,rfl,by omega,by omega,hE⟩
      case measure=>simp[intOf];omega
  ·obtain rfl:k=s.length:=(by omega);have hE:aC (X=(0+(s.length-(i+1)),false,b)):=(by show _=_;have h2:=H.o;rw[aEG,Lx.yC] at h2;exact h2);clear H HX;go_wp2_with fail;go_ret2;rw[hE.out];refine⟨?_,rfl⟩;show _=aDN (.tuple #[kZZ ((i+1+(0+(s.length-(i+1))):Nat):Int),kZZ 8]);rw[show((i+1+(0+(s.length-(i+1))):Nat):Int)=(s.length:Int) by omega];rfl
theorem Qf(d:Nat)(l:Bs)(h: [123,45].isPrefixOf l=true):Lx.iR d l=(Lx.iR (d+1) (l.drop 2)).map (· +2):=by
 obtain⟨t,rfl⟩:=Lx.kG h;rw[Lx.iR,if_pos ⟨rfl,rfl⟩];rfl
theorem Qe(d:Nat)(l:Bs)(h: [45,125].isPrefixOf l=true):Lx.iR d l=if d=1 then some 2 else(Lx.iR (d-1) (l.drop 2)).map (· +2):=by
 obtain⟨t,rfl⟩:=Lx.kG h;rw[Lx.iR,if_neg (by decide),if_pos ⟨rfl,rfl⟩];rfl
theorem Qg(d:Nat)(l:Bs)(h1: [123,45].isPrefixOf l=false)(h2: [45,125].isPrefixOf l=false):Lx.iR d l=(Lx.iR d (l.drop 1)).map (· +1):=by
 rcases l with _|⟨a,_|⟨b,t⟩⟩
 ·simp[Lx.iR]
 ·simp[Lx.iR]
 ·rw[Lx.iR,if_neg,if_neg]
  ·rfl
  ·rintro⟨rfl,rfl⟩;simp[aEF] at h2
  ·rintro⟨rfl,rfl⟩;simp[aEF] at h1
def aBq(n i:Nat):Option Nat->Value
 |some k=>.tuple #[kZZ ((i+2+k:Nat):Int),.bool true]
 |none=>.tuple #[kZZ n,.bool false]
theorem YL(s:Bs)(i:Nat)(w:World)(hs: [123,45].isPrefixOf (s.drop i)=true)(hl:s.length<=100000000):
  Calls aBS 159 #[.string ⟨s.toArray⟩,kZZ i] w fun e w'=>e=.returned (aBq s.length i (Lx.iR 1 (s.drop (i+2))))/\w'=w:=by
 have hi2:i+2<=s.length:=by obtain⟨t,ht⟩:=Lx.kG hs;have:=congrArg aDG ht;rw[aCB] at this;simp at this;omega
 have hho: ∀k,k<=s.length->∀w,Calls aBS 158 #[.string ⟨s.toArray⟩,kZZ k,.int .u8 123,.int .u8 45] w fun e w'=>e=.returned (.bool ([123,45].isPrefixOf (s.drop k)))/\w'=w:=fun k hk w=>gZ s k 123 45 w hl hk
 have hhs: ∀k,k<=s.length->∀w,Calls aBS 158 #[.string ⟨s.toArray⟩,kZZ k,.int .u8 45,.int .u8 125] w fun e w'=>e=.returned (.bool ([45,125].isPrefixOf (s.drop k)))/\w'=w:=fun k hk w=>gZ s k 45 125 w hl hk
 generalize hR:Lx.iR 1 (s.drop (i+2))=R;have HR:=aB hR;have Hs:=aB hs;clear hR hs
 go_enter func159,ntmps159
 go_wp2_with fail
 go_loop [1,6] (fun iv dv=> ∃k d:Nat,iv=kZZ k/\dv=kZZ d/\k<=s.length/\d<=k/\((k=i/\d=0)\/(1<=d/\i+2<=k/\aC (R=(Lx.iR d (s.drop k)).map (· +(k-(i+2))))))) (fun iv _=>s.length-(intOf iv).toNat)
 case atStart=>exact⟨i,0,rfl,rfl,by omega,by omega,.inl ⟨rfl,rfl⟩⟩
 case round=>
  obtain⟨k,d,rfl,rfl,hk,hdk,H⟩:=hrel;have h1:=hho k hk;have h2:=hhs k hk;rcases H with ⟨rfl,rfl⟩|⟨hd1,hik,H⟩
  ·rw[Hs.o] at h1;generalize [(45:UInt8),125].isPrefixOf (s.drop k)=q at *;have hlt:=jJ k s.length;go_wp2_with fail;refine(h1 _).mono ?_;rintro e w' ⟨rfl,rfl⟩;go_wp2_with fail;refine(h2 _).mono ?_;rintro e w' ⟨rfl,rfl⟩;go_wp2_with fail
   go_round
   case rel=>exact⟨k+2,1,by go_num,by go_num,by omega,by omega,.inr ⟨by omega,by omega,by show _=_;rw[<-HR.o];simp⟩⟩
   case measure=>simp[intOf];omega
  ·by_cases hlt:k<s.length
   ·have i1:=jJ k s.length;cases ho: [(123:UInt8),45].isPrefixOf (s.drop k)with
    |true=>
     have hN:aC (R=(Lx.iR (d+1) (s.drop (k+2))).map (· +(k+2-(i+2)))):=by
      show _=_;rw[H.o,Qf d _ ho,aDP,aGX]
      congr 1
      funext x
      simp only[aGY];omega
     have hk2:k+2<=s.length:=(by obtain⟨t,ht⟩:=Lx.kG ho;have:=congrArg aDG ht;rw[aCB] at this;simp at this;omega);rw[ho] at h1;generalize [(45:UInt8),125].isPrefixOf (s.drop k)=q at *;clear ho H;go_wp2_with fail;refine(h1 _).mono ?_;rintro e w' ⟨rfl,rfl⟩;go_wp2_with fail;refine(h2 _).mono ?_;rintro e w' ⟨rfl,rfl⟩;go_wp2_with fail
     go_round
     case rel=>exact⟨k+2,d+1,by go_num,by go_num,by omega,by omega,.inr ⟨by omega,by omega,hN⟩⟩
     case measure=>simp[intOf];omega
    |false=>
     rw[ho] at h1;cases hq: [(45:UInt8),125].isPrefixOf (s.drop k)with
     |true=>
      rw[hq] at h2;have hk2:k+2<=s.length:=by obtain⟨t,ht⟩:=Lx.kG hq;have:=congrArg aDG ht;rw[aCB] at this;simp at this;omega
      have h3:=H.o;rw[Qe d _ hq,aDP] at h3
      by_cases hd:d=1
      ·rw[if_pos hd] at h3;have hN:aC (R=some (2+(k-(i+2)))):=h3;subst hd;clear h3 ho hq H;go_wp2_with fail;refine(h1 _).mono ?_;rintro e w' ⟨rfl,rfl⟩;go_wp2_with fail;refine(h2 _).mono ?_;rintro e w' ⟨rfl,rfl⟩;go_wp2_with fail;go_ret2;rw[hN.out];refine⟨?_,rfl⟩;show _=aDN (.tuple #[kZZ ((i+2+(2+(k-(i+2))):Nat):Int),.bool true]);rw[show((i+2+(2+(k-(i+2))):Nat):Int)=(k:Int)+2 by omega];rfl
      ·rw[if_neg hd] at h3;have hN:aC (R=(Lx.iR (d-1) (s.drop (k+2))).map (· +(k+2-(i+2)))):=by
        show _=_;rw[h3,aGX]
        congr 1
        funext x
        simp only[aGY];omega
       have e1:((d:Int)-1==0)=false:=(by simp;omega);clear h3 ho hq H;go_wp2_with fail;refine(h1 _).mono ?_;rintro e w' ⟨rfl,rfl⟩;go_wp2_with fail;refine(h2 _).mono ?_;rintro e w' ⟨rfl,rfl⟩;go_wp2_with fail
       go_round
       case rel=>exact⟨k+2,d-1,by go_num,by congr 1;omega,by omega,by omega,.inr ⟨by omega,by omega,hN⟩⟩
       case measure=>simp[intOf];omega
     |false=>
      rw[hq] at h2;have hN:aC (R=(Lx.iR d (s.drop (k+1))).map (· +(k+1-(i+2)))):=by
       show _=_;rw[H.o,Qg d _ ho hq,aDP,aGX]
       congr 1
       funext x
       simp only[aGY];omega
      clear ho hq H;go_wp2_with fail;refine(h1 _).mono ?_;rintro e w' ⟨rfl,rfl⟩;go_wp2_with fail;refine(h2 _).mono ?_;rintro e w' ⟨rfl,rfl⟩;go_wp2_with fail
      go_round
      case rel=>exact⟨k+1,d,by go_num,rfl,by omega,by omega,.inr ⟨by omega,by omega,hN⟩⟩
      case measure=>simp[intOf];omega
   ·obtain rfl:k=s.length:=(by omega);have hN:aC (R=none):=(by show _=_;rw[H.o,aEG];rfl);clear H h1 h2;go_wp2_with fail;go_ret2;rw[hN.out];exact⟨rfl,rfl⟩
end Go.Proofs.YtcjjfeephaddcaaGreatDoor
