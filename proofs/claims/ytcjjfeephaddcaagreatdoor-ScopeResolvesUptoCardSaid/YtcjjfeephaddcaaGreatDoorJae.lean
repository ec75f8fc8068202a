import Derived.Test.YtcjjfeephaddcaaGreatDoorJad
set_option linter.all false
open Go.Calls renaming quiet_of_same->aFV
open Go.IntKind renaming i64->aCQ
open Go.IntWalk renaming i64_in->aCV
open Go.Proofs.Tryz renaming prog->aBS
open Go.RowKit.Below renaming refl->aBU
open Go.Value renaming slice->aBX
open Go.World renaming ownsRow_nil->aCW,block_lt_of_cell?->aDA
open List renaming length_append->aBW,length_drop->aCB,length_cons->aCC,length->aDG,flatMap_cons->aEU
open Nat renaming le_refl->aBT,zero_le->aBZ,add_assoc->aDU
set_option maxHeartbeats 64000000
set_option maxRecDepth 100000
open Go.Proofs.Tryz
namespace Go.Proofs.YtcjjfeephaddcaaGreatDoor
open Go.RowKit
variable{w w':World}{b g gt i n:Nat}{K:Nat->Prop}
theorem Lh(l:Bs)(hne:l≠ [])(h:(dec l).1=34): ∃t,l=34::t:=by
 cases l with
 |nil=>exact absurd rfl hne
 |cons a t=>
  have hb:aF (a::t) 0=a.toNat:=rfl;rcases Nat.lt_or_ge a.toNat 128 with h1|h1
  ·rw[FW (by rw[hb];exact h1),hb] at h;exact⟨t,by rw[UInt8.toNat_inj.1 (show a.toNat=(34:UInt8).toNat from h)]⟩
  ·have:=VN (l:=a::t) (by rw[hb];exact h1);omega
def YH(x:Nat×Nat):Value:=.tuple #[kZZ x.1,kZZ x.2]
theorem VJ: ∀args w,(callFunc 186 args).run aBS w=.ok (.enter 186 args) w:=enters_of func186 (by kernel_rfl) rfl
theorem E8: ∀args w,(callFunc 191 args).run aBS w=.ok (.enter 191 args) w:=enters_of func191 (by kernel_rfl) rfl
theorem VK: ∀args w,(callFunc 192 args).run aBS w=.ok (.enter 192 args) w:=enters_of func192 (by kernel_rfl) rfl
section
variable(l:Bs)(m:Int)(w:World)
theorem oW(c:Nat)(w:World):Calls aBS 186 #[.int .i32 c] w fun e w'=>e=.returned (.bool (Lx.cO c))/\w'=w:=(KN c w).mono fun _ _ h=>⟨h.1,h.2.symm⟩
theorem nI(c:Nat)(w:World):Calls aBS 190 #[.int .i32 c] w fun e w'=>e=.returned (.bool (Lx.dI c))/\w'=w:=(GX c w).mono fun _ _ h=>⟨h.1,h.2.symm⟩
theorem pM(c:Nat)(w:World):Calls aBS 192 #[.int .i32 c] w fun e w'=>e=.returned (.bool (Lx.cB c))/\w'=w:=(BK c w).mono fun _ _ h=>⟨h.1,h.2.symm⟩
theorem O5(hM:lN w m)(hT:T8 w)(hW:dJ w)(hne:l≠ [])(hl:l.length<=100000000)(hS:Lx.cO (dec l).1=true):
  Calls aBS 148 #[.string ⟨l.toArray⟩] w fun e w'=>e=.returned (YH (1,Lx.run Lx.cO l))/\Below w.heap.size w w':=by
 have _u:lN w m/\T8 w/\dJ w/\l.length<=100000000:=⟨hM,hT,hW,hl⟩;clear _u;have hdec:=oD l hne w hT;have hsp:=oW (dec l).1;have hp1: ∀w,Calls aBS 181 #[.string ⟨l.toArray⟩,.string ⟨#[45,45]⟩] w fun e w'=>e=.returned (.bool ([45,45].isPrefixOf l))/\w'=w:=fun w=>fQ l [45,45] w
 have hp2: ∀w,Calls aBS 181 #[.string ⟨l.toArray⟩,.string ⟨#[123,45]⟩] w fun e w'=>e=.returned (.bool ([123,45].isPrefixOf l))/\w'=w:=fun w=>fQ l [123,45] w
 have hlt:=nI (dec l).1;have hdg:=pM (dec l).1;have hrun:=fun w1 (hb:Below w.heap.size w w1)=>KS l 186 Lx.cO VJ KN w1 (hT.below hb) hl
 generalize dec l=D at *;obtain⟨c,z⟩:=D;simp only at *
 go_enter func148,ntmps148
 go_wp2_with fail;refine hdec.mono ?_;rintro e w1 ⟨rfl,hb1⟩;have hq:=hsp w1;rw[hS] at hq;go_wp2_with fail;refine hq.mono ?_;clear hq;rintro e w1 ⟨rfl,rfl⟩;go_wp2_with fail;refine(hrun w1 hb1).mono ?_;rintro e w2 ⟨rfl,hb2⟩;go_wp2_with fail;go_ret2;exact⟨rfl,hb1.trans (hb2.mono hb1.size)⟩
theorem Ic(hM:lN w m)(hT:T8 w)(hW:dJ w)(hne:l≠ [])(hl:l.length<=100000000)(hS:Lx.cO (dec l).1=false)(hP1: [45,45].isPrefixOf l=true):
  Calls aBS 148 #[.string ⟨l.toArray⟩] w fun e w'=>e=.returned (YH (2,(l.takeWhile (· !=10)).length))/\Below w.heap.size w w':=by
 have _u:lN w m/\T8 w/\dJ w/\l.length<=100000000:=⟨hM,hT,hW,hl⟩;clear _u;have hdec:=oD l hne w hT;have hsp:=oW (dec l).1;have hp1: ∀w,Calls aBS 181 #[.string ⟨l.toArray⟩,.string ⟨#[45,45]⟩] w fun e w'=>e=.returned (.bool ([45,45].isPrefixOf l))/\w'=w:=fun w=>fQ l [45,45] w
 have hp2: ∀w,Calls aBS 181 #[.string ⟨l.toArray⟩,.string ⟨#[123,45]⟩] w fun e w'=>e=.returned (.bool ([123,45].isPrefixOf l))/\w'=w:=fun w=>fQ l [123,45] w
 have hlt:=nI (dec l).1;have hdg:=pM (dec l).1;have hcut:=fun w1 (hb:Below w.heap.size w w1)=>yS 10 l m w1 (hM.below hb hM.lt) hl
 generalize dec l=D at *;obtain⟨c,z⟩:=D;simp only at *
 go_enter func148,ntmps148
 go_wp2_with fail;refine hdec.mono ?_;rintro e w1 ⟨rfl,hb1⟩;have hq:=hsp w1;rw[hS] at hq;go_wp2_with fail;refine hq.mono ?_;clear hq;rintro e w1 ⟨rfl,rfl⟩;have hq:=hp1 w1;rw[hP1] at hq;go_wp2_with fail;refine hq.mono ?_;clear hq;rintro e w1 ⟨rfl,rfl⟩;go_wp2_with fail;refine(hcut w1 hb1).mono ?_;rintro e w2 ⟨rfl,n,rfl⟩;go_wp2_with fail;go_ret2;exact⟨rfl,below_drewN hb1 n⟩
theorem XO(hM:lN w m)(hT:T8 w)(hW:dJ w)(hne:l≠ [])(hl:l.length<=100000000)(hS:Lx.cO (dec l).1=false)(hP1: [45,45].isPrefixOf l=false)(hP2: [123,45].isPrefixOf l=true):
  Calls aBS 148 #[.string ⟨l.toArray⟩] w fun e w'=>e=.returned (YH (match Lx.iR 1 (l.drop 2)with|some k=>(2,k+2)|none=>(8,l.length)))/\Below w.heap.size w w':=by
 have _u:lN w m/\T8 w/\dJ w/\l.length<=100000000:=⟨hM,hT,hW,hl⟩;clear _u;have hdec:=oD l hne w hT;have hsp:=oW (dec l).1;have hp1: ∀w,Calls aBS 181 #[.string ⟨l.toArray⟩,.string ⟨#[45,45]⟩] w fun e w'=>e=.returned (.bool ([45,45].isPrefixOf l))/\w'=w:=fun w=>fQ l [45,45] w
 have hp2: ∀w,Calls aBS 181 #[.string ⟨l.toArray⟩,.string ⟨#[123,45]⟩] w fun e w'=>e=.returned (.bool ([123,45].isPrefixOf l))/\w'=w:=fun w=>fQ l [123,45] w
 have hlt:=nI (dec l).1;have hdg:=pM (dec l).1;have hrem:=fun w1=>XZ l w1 hP2 hl
 generalize Lx.iR 1 (l.drop 2)=R at *;generalize dec l=D at *;obtain⟨c,z⟩:=D;simp only at *
 go_enter func148,ntmps148
 go_wp2_with fail;refine hdec.mono ?_;rintro e w1 ⟨rfl,hb1⟩;have hq:=hsp w1;rw[hS] at hq;go_wp2_with fail;refine hq.mono ?_;clear hq;rintro e w1 ⟨rfl,rfl⟩;have hq:=hp1 w1;rw[hP1] at hq;go_wp2_with fail;refine hq.mono ?_;clear hq;rintro e w1 ⟨rfl,rfl⟩;have hq:=hp2 w1;rw[hP2] at hq;go_wp2_with fail;refine hq.mono ?_;clear hq;rintro e w1 ⟨rfl,rfl⟩;cases R with
 |none=>go_wp2_with fail;refine(hrem w1).mono ?_;rintro e w' ⟨rfl,rfl⟩;go_wp2_with fail;refine(pI false 2 _).mono ?_;rintro e w' ⟨rfl,rfl⟩;go_wp2_with fail;go_ret2;exact⟨rfl,hb1⟩
 |some k=>go_wp2_with fail;refine(hrem w1).mono ?_;rintro e w' ⟨rfl,rfl⟩;go_wp2_with fail;refine(pI true 2 _).mono ?_;rintro e w' ⟨rfl,rfl⟩;go_wp2_with fail;go_ret2;exact⟨rfl,hb1⟩
theorem Ib(hM:lN w m)(hT:T8 w)(hW:dJ w)(hne:l≠ [])(hl:l.length<=100000000)(hS:Lx.cO (dec l).1=false)(hP1: [45,45].isPrefixOf l=false)(hP2: [123,45].isPrefixOf l=false)(hL:Lx.dI (dec l).1=true):
  Calls aBS 148 #[.string ⟨l.toArray⟩] w fun e w'=>e=.returned (YH (if Lx.zK (l.take (Lx.run Lx.kR l))then 4 else 3,Lx.run Lx.kR l))/\Below w.heap.size w w':=by
 have _u:lN w m/\T8 w/\dJ w/\l.length<=100000000:=⟨hM,hT,hW,hl⟩;clear _u;have hdec:=oD l hne w hT;have hsp:=oW (dec l).1;have hp1: ∀w,Calls aBS 181 #[.string ⟨l.toArray⟩,.string ⟨#[45,45]⟩] w fun e w'=>e=.returned (.bool ([45,45].isPrefixOf l))/\w'=w:=fun w=>fQ l [45,45] w
 have hp2: ∀w,Calls aBS 181 #[.string ⟨l.toArray⟩,.string ⟨#[123,45]⟩] w fun e w'=>e=.returned (.bool ([123,45].isPrefixOf l))/\w'=w:=fun w=>fQ l [123,45] w
 have hlt:=nI (dec l).1;have hdg:=pM (dec l).1;have hrun:=fun w1 (hb:Below w.heap.size w w1)=>KS l 191 Lx.kR E8 Md w1 (hT.below hb) hl
 have hle:=Lx.EX Lx.kR _ l rfl;have hword:=fun w1 (hb:Below w.heap.size w w1)=>Gh (l.take (Lx.run Lx.kR l)) w1 (hW.below hb)
 have hex:=DL l 0 (Lx.run Lx.kR l);unfold ET at hex;rw[List.drop_zero] at hex;rw[<-hex] at hword;clear hex;generalize Lx.zK (l.take (Lx.run Lx.kR l))=B at *;generalize Lx.run Lx.kR l=n at *;generalize dec l=D at *;obtain⟨c,z⟩:=D;simp only at *
 go_enter func148,ntmps148
 go_wp2_with fail;refine hdec.mono ?_;rintro e w1 ⟨rfl,hb1⟩;have hq:=hsp w1;rw[hS] at hq;go_wp2_with fail;refine hq.mono ?_;clear hq;rintro e w1 ⟨rfl,rfl⟩;have hq:=hp1 w1;rw[hP1] at hq;go_wp2_with fail;refine hq.mono ?_;clear hq;rintro e w1 ⟨rfl,rfl⟩;have hq:=hp2 w1;rw[hP2] at hq;go_wp2_with fail;refine hq.mono ?_;clear hq;rintro e w1 ⟨rfl,rfl⟩;have hq:=hlt w1;rw[hL] at hq;go_wp2_with fail;refine hq.mono ?_;clear hq;rintro e w1 ⟨rfl,rfl⟩;cases B with
 |true=>go_wp2_with fail;refine(hrun w1 hb1).mono ?_;rintro e w2 ⟨rfl,hb2⟩;have zC:=hb1.trans (hb2.mono hb1.size);go_wp2_with fail;refine(hword w2 zC).mono ?_;rintro e w' ⟨rfl,rfl⟩;go_wp2_with fail;go_ret2;exact⟨rfl,zC⟩
 |false=>go_wp2_with fail;refine(hrun w1 hb1).mono ?_;rintro e w2 ⟨rfl,hb2⟩;have zC:=hb1.trans (hb2.mono hb1.size);go_wp2_with fail;refine(hword w2 zC).mono ?_;rintro e w' ⟨rfl,rfl⟩;go_wp2_with fail;go_ret2;exact⟨rfl,zC⟩
theorem Pv(hM:lN w m)(hT:T8 w)(hW:dJ w)(hne:l≠ [])(hl:l.length<=100000000)(hS:Lx.cO (dec l).1=false)(hP1: [45,45].isPrefixOf l=false)(hP2: [123,45].isPrefixOf l=false)(hL:Lx.dI (dec l).1=false)(hD:Lx.cB (dec l).1=true):
  Calls aBS 148 #[.string ⟨l.toArray⟩] w fun e w'=>e=.returned (YH (if Lx.run Lx.cB l<=18 then 5 else 8,Lx.run Lx.cB l))/\Below w.heap.size w w':=by
 have _u:lN w m/\T8 w/\dJ w/\l.length<=100000000:=⟨hM,hT,hW,hl⟩;clear _u;have hdec:=oD l hne w hT;have hsp:=oW (dec l).1;have hp1: ∀w,Calls aBS 181 #[.string ⟨l.toArray⟩,.string ⟨#[45,45]⟩] w fun e w'=>e=.returned (.bool ([45,45].isPrefixOf l))/\w'=w:=fun w=>fQ l [45,45] w
 have hp2: ∀w,Calls aBS 181 #[.string ⟨l.toArray⟩,.string ⟨#[123,45]⟩] w fun e w'=>e=.returned (.bool ([123,45].isPrefixOf l))/\w'=w:=fun w=>fQ l [123,45] w
 have hlt:=nI (dec l).1;have hdg:=pM (dec l).1;have hrun:=fun w1 (hb:Below w.heap.size w w1)=>KS l 192 Lx.cB VK BK w1 (hT.below hb) hl
 have hle:=Lx.EX Lx.cB _ l rfl;generalize Lx.run Lx.cB l=n at *;generalize hK:(if n<=18 then 5 else 8:Nat)=K;have HK:=aB hK;clear hK;generalize dec l=D at *;obtain⟨c,z⟩:=D;simp only at *
 go_enter func148,ntmps148
 go_wp2_with fail;refine hdec.mono ?_;rintro e w1 ⟨rfl,hb1⟩;have hq:=hsp w1;rw[hS] at hq;go_wp2_with fail;refine hq.mono ?_;clear hq;rintro e w1 ⟨rfl,rfl⟩;have hq:=hp1 w1;rw[hP1] at hq;go_wp2_with fail;refine hq.mono ?_;clear hq;rintro e w1 ⟨rfl,rfl⟩;have hq:=hp2 w1;rw[hP2] at hq;go_wp2_with fail;refine hq.mono ?_;clear hq;rintro e w1 ⟨rfl,rfl⟩;have hq:=hlt w1;rw[hL] at hq;go_wp2_with fail;refine hq.mono ?_;clear hq;rintro e w1 ⟨rfl,rfl⟩;have hq:=hdg w1;rw[hD] at hq;go_wp2_with fail;refine hq.mono ?_;clear hq;rintro e w1 ⟨rfl,rfl⟩
 by_cases hn:n<=18
 ·have hn2:(n:Int)<=18:=(by omega);obtain rfl:K=5:=(by rw[<-HK.o,if_pos hn]);clear hn HK;go_wp2_with fail;refine(hrun w1 hb1).mono ?_;rintro e w2 ⟨rfl,hb2⟩;go_wp2_with fail;refine(pI true 5 _).mono ?_;rintro e w' ⟨rfl,rfl⟩;go_wp2_with fail;go_ret2;exact⟨rfl,hb1.trans (hb2.mono hb1.size)⟩
 ·have hn2: ¬(n:Int)<=18:=(by omega);obtain rfl:K=8:=(by rw[<-HK.o,if_neg hn]);have hkw: ∀w,Calls aBS 185 #[.bool (decide ((n:Int)<=18)),kZZ 5] w fun e w'=>e=.returned (kZZ 8)/\w=w':=fun w=>(by rw[decide_eq_false hn2];exact pI false 5 w);clear hn HK;go_wp2_with fail;refine(hrun w1 hb1).mono ?_;rintro e w2 ⟨rfl,hb2⟩;go_wp2_with fail;refine(hkw _).mono ?_;rintro e w' ⟨rfl,rfl⟩;go_wp2_with fail;go_ret2;exact⟨rfl,hb1.trans (hb2.mono hb1.size)⟩
theorem Hu(hM:lN w m)(hT:T8 w)(hW:dJ w)(hne:l≠ [])(hl:l.length<=100000000)(hS:Lx.cO (dec l).1=false)(hP1: [45,45].isPrefixOf l=false)(hP2: [123,45].isPrefixOf l=false)(hL:Lx.dI (dec l).1=false)(hD:Lx.cB (dec l).1=false)(hc:(dec l).1=34)(t:Bs)(ht:l=34::t):
  Calls aBS 148 #[.string ⟨l.toArray⟩] w fun e w'=>e=.returned (YH (if(Lx.jL t).2.1/\(Lx.jL t).2.2 then 6 else 8,(Lx.jL t).1+1))/\Below w.heap.size w w':=by
 have _u:lN w m/\T8 w/\dJ w/\l.length<=100000000:=⟨hM,hT,hW,hl⟩;clear _u;have hdec:=oD l hne w hT;have hsp:=oW (dec l).1;have hp1: ∀w,Calls aBS 181 #[.string ⟨l.toArray⟩,.string ⟨#[45,45]⟩] w fun e w'=>e=.returned (.bool ([45,45].isPrefixOf l))/\w'=w:=fun w=>fQ l [45,45] w
 have hp2: ∀w,Calls aBS 181 #[.string ⟨l.toArray⟩,.string ⟨#[123,45]⟩] w fun e w'=>e=.returned (.bool ([123,45].isPrefixOf l))/\w'=w:=fun w=>fQ l [123,45] w
 have hlt:=nI (dec l).1;have hdg:=pM (dec l).1;have htx:=fun w1 (hb:Below w.heap.size w w1)=>Gt l t ht m w1 (hM.below hb hM.lt) (hT.below hb) hl
 generalize Lx.jL t=X at *;obtain⟨n,b1,b2⟩:=X;simp only at htx⊢;generalize hK:(if b1=true/\b2=true then 6 else 8:Nat)=K;have HK:=aB hK;clear hK;clear ht;generalize dec l=D at *;obtain⟨c,z⟩:=D;simp only at *;have hc2:((c:Int)==34)=true:=by simp;omega
 clear hc
 go_enter func148,ntmps148
 go_wp2_with fail;refine hdec.mono ?_;rintro e w1 ⟨rfl,hb1⟩;have hq:=hsp w1;rw[hS] at hq;go_wp2_with fail;refine hq.mono ?_;clear hq;rintro e w1 ⟨rfl,rfl⟩;have hq:=hp1 w1;rw[hP1] at hq;go_wp2_with fail;refine hq.mono ?_;clear hq;rintro e w1 ⟨rfl,rfl⟩;have hq:=hp2 w1;rw[hP2] at hq;go_wp2_with fail;refine hq.mono ?_;clear hq;rintro e w1 ⟨rfl,rfl⟩;have hq:=hlt w1;rw[hL] at hq;go_wp2_with fail;refine hq.mono ?_;clear hq;rintro e w1 ⟨rfl,rfl⟩;have hq:=hdg w1;rw[hD] at hq;go_wp2_with fail;refine hq.mono ?_;clear hq;rintro e w1 ⟨rfl,rfl⟩;cases b1 with
 |false=>obtain rfl:K=8:=(by rw[<-HK.o];rfl);clear HK;go_wp2_with fail;refine(htx w1 hb1).mono ?_;rintro e w2 ⟨rfl,hb2⟩;go_wp2_with fail;refine(pI false 6 _).mono ?_;rintro e w' ⟨rfl,rfl⟩;go_wp2_with fail;go_ret2;exact⟨rfl,hb1.trans (hb2.mono hb1.size)⟩
 |true=>
  cases b2 with
  |false=>obtain rfl:K=8:=(by rw[<-HK.o];rfl);clear HK;go_wp2_with fail;refine(htx w1 hb1).mono ?_;rintro e w2 ⟨rfl,hb2⟩;go_wp2_with fail;refine(pI false 6 _).mono ?_;rintro e w' ⟨rfl,rfl⟩;go_wp2_with fail;go_ret2;exact⟨rfl,hb1.trans (hb2.mono hb1.size)⟩
  |true=>obtain rfl:K=6:=(by rw[<-HK.o];rfl);clear HK;go_wp2_with fail;refine(htx w1 hb1).mono ?_;rintro e w2 ⟨rfl,hb2⟩;go_wp2_with fail;refine(pI true 6 _).mono ?_;rintro e w' ⟨rfl,rfl⟩;go_wp2_with fail;go_ret2;exact⟨rfl,hb1.trans (hb2.mono hb1.size)⟩
theorem Ia(hM:lN w m)(hT:T8 w)(hW:dJ w)(hne:l≠ [])(hl:l.length<=100000000)(hS:Lx.cO (dec l).1=false)(hP1: [45,45].isPrefixOf l=false)(hP2: [123,45].isPrefixOf l=false)(hL:Lx.dI (dec l).1=false)(hD:Lx.cB (dec l).1=false)(hc:(dec l).1≠34):
  Calls aBS 148 #[.string ⟨l.toArray⟩] w fun e w'=>e=.returned (YH (if Lx.qP l>0 then(7,Lx.qP l)else(8,(dec l).2)))/\Below w.heap.size w w':=by
 have _u:lN w m/\T8 w/\dJ w/\l.length<=100000000:=⟨hM,hT,hW,hl⟩;clear _u;have hdec:=oD l hne w hT;have hsp:=oW (dec l).1;have hp1: ∀w,Calls aBS 181 #[.string ⟨l.toArray⟩,.string ⟨#[45,45]⟩] w fun e w'=>e=.returned (.bool ([45,45].isPrefixOf l))/\w'=w:=fun w=>fQ l [45,45] w
 have hp2: ∀w,Calls aBS 181 #[.string ⟨l.toArray⟩,.string ⟨#[123,45]⟩] w fun e w'=>e=.returned (.bool ([123,45].isPrefixOf l))/\w'=w:=fun w=>fQ l [123,45] w
 have hlt:=nI (dec l).1;have hdg:=pM (dec l).1;have hsg:=fun w1=>Gy l w1 hne
 generalize Lx.qP l=n at *;generalize dec l=D at *;obtain⟨c,z⟩:=D;simp only at *;generalize hK:(if n>0 then(7,n)else(8,z):Nat×Nat)=K;have HK:=aB hK;clear hK;have hc2:((c:Int)==34)=false:=by simp;omega
 clear hc
 go_enter func148,ntmps148
 go_wp2_with fail;refine hdec.mono ?_;rintro e w1 ⟨rfl,hb1⟩;have hq:=hsp w1;rw[hS] at hq;go_wp2_with fail;refine hq.mono ?_;clear hq;rintro e w1 ⟨rfl,rfl⟩;have hq:=hp1 w1;rw[hP1] at hq;go_wp2_with fail;refine hq.mono ?_;clear hq;rintro e w1 ⟨rfl,rfl⟩;have hq:=hp2 w1;rw[hP2] at hq;go_wp2_with fail;refine hq.mono ?_;clear hq;rintro e w1 ⟨rfl,rfl⟩;have hq:=hlt w1;rw[hL] at hq;go_wp2_with fail;refine hq.mono ?_;clear hq;rintro e w1 ⟨rfl,rfl⟩;have hq:=hdg w1;rw[hD] at hq;go_wp2_with fail;refine hq.mono ?_;clear hq;rintro e w1 ⟨rfl,rfl⟩
 by_cases hn:n>0
 ·have hn2:(0:Int)<(n:Int):=(by omega);obtain rfl:K=(7,n):=(by rw[<-HK.o,if_pos hn]);clear hn HK;go_wp2_with fail;refine(hsg w1).mono ?_;rintro e w2 ⟨rfl,hb2⟩;go_wp2_with fail;go_ret2;exact⟨rfl,hb1.trans (hb2.mono hb1.size)⟩
 ·obtain rfl:n=0:=(by omega);obtain rfl:K=(8,z):=(by rw[<-HK.o,if_neg (by omega)]);clear hn HK;go_wp2_with fail;refine(hsg w1).mono ?_;rintro e w2 ⟨rfl,hb2⟩;go_wp2_with fail;go_ret2;exact⟨rfl,hb1.trans (hb2.mono hb1.size)⟩
theorem QI(hM:lN w m)(hT:T8 w)(hW:dJ w)(hne:l≠ [])(hl:l.length<=100000000):
  Calls aBS 148 #[.string ⟨l.toArray⟩] w fun e w'=>e=.returned (YH (Lx.gM l))/\Below w.heap.size w w':=by
 unfold Lx.gM;cases hS:Lx.cO (dec l).1 with
 |true=>rw[if_pos rfl];exact O5 l m w hM hT hW hne hl hS
 |false=>
  rw[if_neg (by simp)];cases hP1: [(45:UInt8),45].isPrefixOf l with
  |true=>rw[if_pos rfl];exact Ic l m w hM hT hW hne hl hS hP1
  |false=>
   rw[if_neg (by simp)];cases hP2: [(123:UInt8),45].isPrefixOf l with
   |true=>rw[if_pos rfl];exact XO l m w hM hT hW hne hl hS hP1 hP2
   |false=>
    rw[if_neg (by simp)];cases hL:Lx.dI (dec l).1 with
    |true=>rw[if_pos rfl];exact Ib l m w hM hT hW hne hl hS hP1 hP2 hL
    |false=>
     rw[if_neg (by simp)];cases hD:Lx.cB (dec l).1 with
     |true=>rw[if_pos rfl];exact Pv l m w hM hT hW hne hl hS hP1 hP2 hL hD
     |false=>
      rw[if_neg (by simp)]
      by_cases hc:(dec l).1=34
      ·obtain⟨t,ht⟩:=Lh l hne hc;rw[if_pos hc];have h1:l.drop 1=t:=(by rw[ht];rfl);rw[h1];exact Hu l m w hM hT hW hne hl hS hP1 hP2 hL hD hc t ht
      ·rw[if_neg hc];exact Ia l m w hM hT hW hne hl hS hP1 hP2 hL hD hc
end
abbrev Tk:=Nat×Nat×Nat
def Cv(x:Tk):List Value:=[kZZ x.1,kZZ x.2.1,kZZ x.2.2]
def fJ(l:List Tk):List Value:=l.flatMap Cv
theorem rG(l:List Tk):(fJ l).length=l.length*3:=by
 induction l with
 |nil=>rfl
 |cons a l ih=>simp only[fJ,aEU,aBW,aCC] at *;rw[ih];simp[Cv];omega
theorem QF(l:List Tk)(x:Tk):fJ (l++[x])=fJ l++Cv x:=by simp[fJ]
theorem uB(l:List Tk)(k j:Nat)(hj:j<3)(hk:k<l.length):(fJ l)[k*3+j]? =(Cv l[k])[j]? :=by
 induction l generalizing k with
 |nil=>simp at hk
 |cons a l ih=>
  cases k with
  |zero=>simp only[fJ,aEU];rw[List.getElem?_append_left (by simp[Cv];omega)];simp
  |succ k=>have h3:(Cv a).length=3:=rfl;simp only[fJ,aEU];rw[List.getElem?_append_right (by omega),h3];have e:(k+1)*3+j-3=k*3+j:=(by omega);rw[e];have:=ih k (by simpa using hk);simpa [fJ] using this
theorem W9:(aBS.info? 127).map (fun i=>(i.zero,i.size,i.bytes))=some (some (.agg #[kZZ 0,kZZ 0,kZZ 0]),3,24):=by kernel_rfl
theorem Jg(s:Bs)(k:Nat)(m:Int)(w:World)(hM:lN w m)(hT:T8 w)(hW:dJ w)(hk:k<s.length)(hl:s.length<=100000000):
  Calls aBS 101 #[.string ⟨s.toArray⟩,kZZ k] w fun e w'=>e=.returned (.agg #[kZZ (Lx.gM (s.drop k)).1,kZZ k,kZZ (Lx.gM (s.drop k)).2])/\Below w.heap.size w w':=by
 obtain⟨i0,ji,iW,jz1,iV⟩:=info_parts W9;have hne:s.drop k≠ []:=by intro e;have:=congrArg aDG e;simp at this;omega
 have hs:=fun w1 (hb:Below w.heap.size w w1)=>QI (s.drop k) m w1 (hM.below hb hM.lt) (hT.below hb) (hW.below hb) hne (by rw[aCB];omega)
 rw[<-qI] at hs;generalize Lx.gM (s.drop k)=X at *;obtain⟨a,n⟩:=X;have Hs:aC (∀w1,Below w.heap.size w w1->Calls aBS 148 #[.string ((⟨s.toArray⟩:ByteArray).extract k s.length)] w1 fun e w'=>e=.returned (.tuple #[kZZ a,kZZ n])/\Below w1.heap.size w1 w'):=hs;have hb1:=nR w (.cells #[kZZ 0,kZZ 0,kZZ 0] 127);have hB1:aV (w.alloc (.cells #[kZZ 0,kZZ 0,kZZ 0] 127)) w.heap.size 127 #[kZZ 0,kZZ 0,kZZ 0]:=aV.new _ _ _;have i0':(0:Int)<=(k:Int):=by omega
 have i1:(k:Int)<=(s.length:Int):=by omega
 clear hs hne
 go_enter func101,ntmps101
 go_wp2_with fail;refine(Hs.o _ hb1).mono ?_;clear Hs;rintro e w2 ⟨rfl,hb2⟩;have hB2:=hB1.below hb2 (by simp);have zC:=hb1.trans (hb2.mono (by simp));have c0:=hB2.cell 0;have c1:=hB2.cell 1;have c2:=hB2.cell 2;have f0:=hB2.frozen 0;have f1:=hB2.frozen 1;have f2:=hB2.frozen 2;simp at c0 c1 c2;clear hb1 hB1;go_wp2_with fail;have hB3:=((hB2.bD 0 (kZZ a)).bD 1 (kZZ k)).bD 2 (kZZ n);have hb3:=((zC.setCell (p:=⟨w.heap.size,0,none⟩) (aBT _) (kZZ a)).setCell (p:=⟨w.heap.size,1,none⟩) (aBT _) (kZZ k)).setCell (p:=⟨w.heap.size,2,none⟩) (aBT _) (kZZ n);exact bodyPost_ret (v:=.agg #[kZZ a,kZZ k,kZZ n]) (results_cell_row (hu:=underlying127) (h:=rfl) (hp:=rfl) (hg:=hB3) (hd:=rfl) (hi:=by kernel_rfl)) rfl ⟨rfl,hb3⟩
theorem KI(A:Option Addr)(n c:Nat)(w:World)(h:n<=c)(hn:A=none->c=0):
  Calls aBS 102 #[.slice A n c] w fun e w'=>e=.returned (.slice A n n)/\w=w':=by
 cases A with
 |none=>
  have:=hn rfl;subst this;obtain rfl:n=0:=by omega
  go_enter func102,ntmps102
  go_wp2
  go_ret;exact⟨rfl,rfl⟩
 |some a=>
  go_enter func102,ntmps102
  go_wp2
  go_ret;exact⟨rfl,rfl⟩
theorem gQ{base:Nat}{e:TypeId}{size:Nat}{v:Value}{xs:List Value}(h:w.ownsRow base e size v n xs): ∃Av cv,v=.slice Av n cv/\n<=cv/\(Av=none->cv=0):=by
 rcases h.2 with ⟨rfl,Ki⟩|⟨g,cap,cur,rfl,_,_,hle,_⟩
 ·exact⟨none,0,by rw[Ki],by omega,fun _=>rfl⟩
 ·exact⟨_,cap,rfl,hle,fun h=>by cases h⟩
theorem TL(s:Bs)(m:Int)(w:World)(hM:lN w m)(hT:T8 w)(hW:dJ w)(hl:s.length<=8388608):
  Calls aBS 50 #[.string ⟨s.toArray⟩] w fun e w'=> ∃A,e=.returned (.slice A (Lx.dR 0 s).length (Lx.dR 0 s).length)/\(∃c,w'.ownsRow w.heap.size 127 3 (.slice A (Lx.dR 0 s).length c) (Lx.dR 0 s).length (fJ (Lx.dR 0 s)))/\Below w.heap.size w w':=by
 obtain⟨i0,ji,iW,jz1,iV⟩:=info_parts W9;generalize hR:Lx.dR 0 s=R;have HR:=aB hR;clear hR
 go_enter func50,ntmps50
 go_wp2_with fail
 go_loopw [3,4] (fun v i wr=> ∃(k:Nat) (done:List Tk),i=kZZ k/\k<=s.length/\done.length<=k/\wr.ownsRow w.heap.size 127 3 v done.length (fJ done)/\Below w.heap.size w wr/\aC (R=done++Lx.dR k (s.drop k))) (fun _ i _=>s.length-(intOf i).toNat)
 case atStart=>exact⟨0,[],rfl,aBZ _,aBT _,aCW _ _ _ _,aBU _ _,by show _=_;rw[<-HR.o];rfl⟩
 case round=>
  obtain⟨k,done,rfl,hk,hdl,hown,hb,H⟩:=hrel;have hbs:=hb.size
  by_cases hlt:k<s.length
  ·have hne:s.drop k≠ []:=(by intro e;have:=congrArg aDG e;simp at this;omega);have hnx:=Jg s k m wr (hM.below hb hM.lt) (hT.below hb) (hW.below hb) hlt (by omega);have hone:=Lx.one_le (s.drop k) hne;have Hs:aC (R=(done++[((Lx.gM (s.drop k)).1,k,(Lx.gM (s.drop k)).2)])++Lx.dR (k+(Lx.gM (s.drop k)).2) (s.drop (k+(Lx.gM (s.drop k)).2))):=(by show _=_;rw[H.o,Lx.lS k hne,List.drop_drop];simp);rw[aCB] at hone;generalize Lx.gM (s.drop k)=X at *;obtain⟨a,n⟩:=X;simp only at hone hnx Hs;obtain⟨o1,o2,o3,o4⟩:=hone;have i0':(0:Int)<=(k:Int):=(by omega);have i1:=jJ k s.length;clear hne H o3 o4;go_wp2_with fail;refine hnx.mono ?_;clear hnx;rintro e w2 ⟨rfl,hb2⟩;have Tf:=hb.trans (hb2.mono hbs);have aAb:=Tf.size;have hown2:=aM hown fun b hbk=>hb2.block b (hown.lt b hbk).2
   obtain⟨Av,cv,rfl⟩:=CJ hown2;have hoA:=(hown2.alloc (.cells #[kZZ a,kZZ k,kZZ n] 127)).alloc (.cells #[kZZ a,kZZ k,kZZ n] 127);have hbA:Below w.heap.size w ((w2.alloc (.cells #[kZZ a,kZZ k,kZZ n] 127)).alloc (.cells #[kZZ a,kZZ k,kZZ n] 127)):=(Tf.alloc aAb _).alloc (by simp;omega) _;have hBT:aV ((w2.alloc (.cells #[kZZ a,kZZ k,kZZ n] 127)).alloc (.cells #[kZZ a,kZZ k,kZZ n] 127)) w2.heap.size 127 #[kZZ a,kZZ k,kZZ n]:=(aV.new w2 _ _).alloc _;have hne2:some w2.heap.size≠(aBX Av done.length cv).ownBlock:=fun e=>(by have:=(hown2.lt _ e.symm).2;omega);have hBN:((w2.alloc (.cells #[kZZ a,kZZ k,kZZ n] 127)).alloc (.cells #[kZZ a,kZZ k,kZZ n] 127)).heap[w2.heap.size+1]? =some (.cells #[kZZ a,kZZ k,kZZ n] 127 (0,0)):=(by have:=heap_alloc_new (w2.alloc (.cells #[kZZ a,kZZ k,kZZ n] 127)) (.cells #[kZZ a,kZZ k,kZZ n] 127);simpa using this);clear hown hb hbs hb2;go_wp2_with (at_builtin;refine wpList_append_lies _ rfl _ _ 124 rfl w.heap.size 127 i0 _ 3 24 underlying124 ji iW jz1 iV rfl (by omega) (.slice Av done.length cv) done.length (fJ done) rfl hoA ⟨w2.heap.size+1,0,none⟩ 1 1 [kZZ a,kZZ k,kZZ n] rfl rfl (World.news_of_block (cs:=#[kZZ a,kZZ k,kZZ n]) (t:=127) (fr:=(0,0)) hBN) (by simp[Value.oneCell']) (by omega) (by unfold maxLen;omega) (by omega) (by simp;omega) _ rfl ?_;intro gg cap' w3 hown3 hgrow hat hlt3;have hB3:=hBT.grown hgrow hne2;have c2:=hB3.cell 2;simp at c2)
   go_roundw
   case rel=>exact⟨k+n,done++[(a,k,n)],by go_num,by omega,by simp;omega,by rw[QF,aBW];exact hown3,hbA.grown hgrow (by simp;omega) (fun g hg=>(hown2.lt g hg).1),Hs.o⟩
   case measure=>simp[intOf];omega
  ·obtain rfl:k=s.length:=(by omega);have hRd:aC (R=done):=(by show _=_;rw[H.o,List.drop_length,Lx.jK,List.append_nil]);obtain⟨Av,cv,rfl,hle,hvn⟩:=gQ hown;clear H;go_wp2_with fail;refine(KI Av done.length cv _ hle hvn).mono ?_;rintro e w' ⟨rfl,rfl⟩;go_wp2_with fail;go_ret;rw[hRd.out];exact⟨Av,rfl,⟨cv,hown⟩,hb⟩
structure Calm(w w':World):Prop where
 os:w'.os=w.os
 tape:w'.tape=w.tape
 output:w'.output=w.output
theorem Calm.refl (w:World):Calm w w:=⟨rfl,rfl,rfl⟩
theorem Calm.trans {w1:World}(h:Calm w w1)(h':Calm w1 w'):Calm w w':=⟨h'.os.trans h.os,h'.tape.trans h.tape,h'.output.trans h.output⟩
theorem Calm.below {B:Nat}(h:Below B w w'):Calm w w':=⟨h.os,h.tape,h.output⟩
theorem Calm.set (w:World)(a:Addr)(v:Value):Calm w (w.setCell a v):=by
 cases a with|mk b o k=>exact⟨rfl,rfl,rfl⟩
structure fG(K:Nat->Prop)(g:Nat)(w w':World):Prop where
 size:w.heap.size<=w'.heap.size
 sI: ∀x,K x->x≠g->w'.heap[x]? =w.heap[x]?
 calm:Calm w w'
def Old(w:World):Nat->Prop:=fun x=>x<w.heap.size
def In(K:Nat->Prop)(w:World):Prop:= ∀x,K x->x<w.heap.size
section
variable{K K':Nat->Prop}{g:Nat}{w w' w1:World}
theorem fG.refl (K:Nat->Prop)(g:Nat)(w:World):fG K g w w:=⟨aBT _,fun _ _ _=>rfl,Calm.refl w⟩
theorem fG.mono (h:fG K g w w')(hK: ∀x,K' x->K x):fG K' g w w':=⟨h.size,fun x hx hg=>h.sI x (hK x hx) hg,h.calm⟩
theorem fG.trans (h:fG K g w w1)(h':fG K g w1 w'):fG K g w w':=⟨Nat.le_trans h.size h'.size,fun x hx hg=>(h'.sI x hx hg).trans (h.sI x hx hg),h.calm.trans h'.calm⟩
theorem In.after (h:In K w)(ha:w.heap.size<=w'.heap.size):In K w':=fun x hx=>Nat.lt_of_lt_of_le (h x hx) ha
theorem Old.WK (w:World):In (Old w) w:=fun _ h=>h
theorem fG.old (h:fG (Old w) g w w')(hK:In K w):fG K g w w':=h.mono fun x hx=>hK x hx
theorem fG.below (h:Below w.heap.size w w')(hK:In K w):fG K g w w':=⟨h.size,fun x hx _=>h.block x (hK x hx),Calm.below h⟩
theorem fG.drewN (h:fG K g w w')(n:Nat):fG K g w (w'.drewN n):=⟨h.size,h.sI,h.calm.os,h.calm.tape,h.calm.output⟩
theorem fG.drew (h:fG K g w w'):fG K g w w'.drew:=⟨h.size,h.sI,h.calm.os,h.calm.tape,h.calm.output⟩
theorem fG.set (h:fG K g w w')(i:Nat)(v:Value):fG K g w (w'.setCell ⟨g,i,none⟩ v):=
 ⟨by have:=h.size;simpa [World.setCell] using this,fun x hx hg=>(Below.heap_setCell w' ⟨g,i,none⟩ v x hg).trans (h.sI x hx hg),h.calm.trans (Calm.set w' _ v)⟩
theorem aV.cZ {t:TypeId}{cs:Array Value}(h:aV w b t cs)(ha:fG K g w w')(hb:K b)(hg:b≠g):aV w' b t cs:=(ha.sI b hb hg).trans h
end
def fP(w:World)(F:Nat->Prop)(A:Option Addr)(vs:List Value):Prop:=
 0<vs.length->∃b o,A=some ⟨b,o,none⟩/\F b/\b<w.heap.size/\∀j u,vs[j]? =some u->w.cell? ⟨b,o+j,none⟩=some u
theorem fP.keep {F F':Nat->Prop}{A:Option Addr}{vs:List Value}(h:fP w F A vs)(hs:w.heap.size<=w'.heap.size)(hk: ∀b,F b->b<w.heap.size->w'.heap[b]? =w.heap[b]? /\F' b):fP w' F' A vs:=fun hn=>by
 obtain⟨b,o,e,hF,hl,hc⟩:=h hn;have:=hk b hF hl;exact⟨b,o,e,this.2,by omega,fun j u hu=>(World.cell?_of_block (a:=⟨b,o+j,none⟩) this.1).trans (hc j u hu)⟩
mutual
def dE(w:World)(F:Nat->Prop):Tr.PT->Value->Prop
 | .leaf k t a,v=> ∃g,v=.iface 171 (pZZ g)/\F g/\aV w g 173 #[vZZ k,.string ⟨t.toArray⟩,vZZ a]
 | .gap t a d,v=> ∃g,v=.iface 176 (pZZ g)/\F g/\aV w g 308 #[.string ⟨t.toArray⟩,vZZ a,.bool d]
 | .branch k a l,v=> ∃g,v=.iface 114 (pZZ g)/\F g/\∃A c vs,aV w g 178 #[vZZ k,.slice A l.length c,vZZ a]/\l.length<=c/\fP w F A vs/\eF w F l vs
def eF(w:World)(F:Nat->Prop):List Tr.PT->List Value->Prop
 | [],vs=>vs=[]
 |p::l,vs=> ∃v vs',vs=v::vs'/\dE w F p v/\eF w F l vs'
end
section
variable{w w':World}{F F':Nat->Prop}
mutual
theorem dE.keep (hs:w.heap.size<=w'.heap.size)(hk: ∀b,F b->b<w.heap.size->w'.heap[b]? =w.heap[b]? /\F' b): ∀(p:Tr.PT) (v:Value),dE w F p v->dE w' F' p v
 | .leaf k t a,v,h=>by obtain⟨g,e,hF,hB⟩:=h;have:=hk g hF hB.lt;exact⟨g,e,this.2,this.1.trans hB⟩
 | .gap t a d,v,h=>by obtain⟨g,e,hF,hB⟩:=h;have:=hk g hF hB.lt;exact⟨g,e,this.2,this.1.trans hB⟩
 | .branch k a l,v,h=>by obtain⟨g,e,hF,A,c,vs,hB,hc,hr,hp⟩:=h;have:=hk g hF hB.lt;exact⟨g,e,this.2,A,c,vs,this.1.trans hB,hc,hr.keep hs hk,eF.keep hs hk l vs hp⟩
theorem eF.keep (hs:w.heap.size<=w'.heap.size)(hk: ∀b,F b->b<w.heap.size->w'.heap[b]? =w.heap[b]? /\F' b): ∀(l:List Tr.PT) (vs:List Value),eF w F l vs->eF w' F' l vs
 | [],vs,h=>h
 |p::l,vs,h=>by obtain⟨v,vs',e,hp,hl⟩:=h;exact⟨v,vs',e,dE.keep hs hk p v hp,eF.keep hs hk l vs' hl⟩
end
theorem eF.len: ∀{l:List Tr.PT} {vs:List Value},eF w F l vs->vs.length=l.length
 | [],vs,h=>by have:vs=[]:=h;subst this;rfl
 |p::l,vs,h=>by obtain⟨v,vs',rfl,hp,hl⟩:=h;rw[aCC,aCC,eF.len hl]
theorem eF.app: ∀{l m:List Tr.PT} {vs us:List Value},eF w F l vs->eF w F m us->eF w F (l++m) (vs++us)
 | [],m,vs,us,h,hm=>by have:vs=[]:=h;subst this;exact hm
 |p::l,m,vs,us,h,hm=>by obtain⟨v,vs',rfl,hp,hl⟩:=h;exact⟨v,vs'++us,rfl,hp,eF.app hl hm⟩
theorem eF.one {p:Tr.PT}{v:Value}(h:dE w F p v):eF w F [p] [v]:=⟨v,[],rfl,h,rfl⟩
theorem eF.at_: ∀{l:List Tr.PT} {vs:List Value} {i:Nat},eF w F l vs->∀(h:i<l.length),∃v,vs[i]? =some v/\dE w F l[i] v
 | [],_,_,_,h=>absurd h (by simp)
 |p::l,vs,0,hp,_=>by obtain⟨v,vs',rfl,h,_⟩:=hp;exact⟨v,rfl,h⟩
 |p::l,vs,i+1,hp,h=>by obtain⟨v,vs',rfl,_,hl⟩:=hp;have:=eF.at_ (i:=i) hl (by simpa using h);simpa using this
end
structure OB(w:World)(K:Nat->Prop)(h:Nat)(kind at_:Nat)(pts:List Tr.PT)(A:Option Addr)(c:Nat)(vs:List Value):Prop where
 nk: ¬K h
 blk:aV w h 178 #[vZZ kind,.slice A pts.length c,vZZ at_]
 own:w.ownsRow 0 122 1 (.slice A pts.length c) pts.length vs
 nr: ∀q,(aBX A pts.length c).ownBlock=some q->¬K q
 parts:eF w (fun x=> ¬K x/\x≠h/\some x≠(aBX A pts.length c).ownBlock) pts vs
def Br(w:World)(K:Nat->Prop)(h:Nat)(kind at_:Nat)(pts:List Tr.PT):Prop:= ∃A c vs,OB w K h kind at_ pts A c vs
section
variable{w w':World}{K K':Nat->Prop}{g h kind at_:Nat}{pts:List Tr.PT}{A:Option Addr}{c:Nat}{vs:List Value}
theorem OB.kF (hb:OB w K h kind at_ pts A c vs): ∀q,(aBX A pts.length c).ownBlock=some q->q<w.heap.size:=fun q hq=>(hb.own.lt q hq).2
theorem OB.jP (hb:OB w K h kind at_ pts A c vs):some h≠(aBX A pts.length c).ownBlock:=own_ne hb.own hb.blk (by decide)
theorem OB.cZ (hb:OB w K h kind at_ pts A c vs)(ha:fG K' g w w')(hg:K g)(hK: ∀x,x<w.heap.size->K' x):OB w' K h kind at_ pts A c vs:=by
 have hne: ∀x,¬K x->x≠g:=fun x hx e=>hx (e▸hg)
 exact⟨hb.nk,hb.blk.cZ ha (hK _ hb.blk.lt) (hne _ hb.nk),aM hb.own fun q hq=>ha.sI q (hK _ (hb.kF q hq)) (hne _ (hb.nr q hq)),hb.nr,
  eF.keep ha.size (fun b hF hl=>⟨ha.sI b (hK b hl) (hne _ hF.1),hF⟩) _ _ hb.parts⟩
theorem Br.cZ (hb:Br w K h kind at_ pts)(ha:fG (Old w) g w w')(hg:K g):Br w' K h kind at_ pts:=by
 obtain⟨A,c,vs,hb⟩:=hb;exact⟨A,c,vs,hb.cZ ha hg fun x hx=>hx⟩
theorem Br.nk (hb:Br w K h kind at_ pts): ¬K h:=by
 obtain⟨A,c,vs,hb⟩:=hb;exact hb.nk
theorem Br.part (hb:Br w K h kind at_ pts):dE w (fun x=> ¬K x) (.branch kind at_ pts) (.iface 114 (pZZ h)):=by
 obtain⟨A,c,vs,hb⟩:=hb;refine⟨h,rfl,hb.nk,A,c,vs,hb.blk,?_,?_,?_⟩
 ·rcases hb.own.2 with ⟨e,e2⟩|⟨q,cap,cur,e,_,_,hle,_⟩
  ·injection e;omega
  ·injection e with _ _ e3;omega
 ·intro hn;rcases hb.own.2 with ⟨e,e2⟩|⟨q,cap,cur,e,_,hq,hle,_,hz,hx⟩
  ·have:=hb.own.1;omega
  ·injection e with e1 e2 e3;subst e1;refine⟨q,0,rfl,hb.nr q rfl,qX hq,fun j u hu=> ?_⟩;rw[Nat.zero_add];have h0:=hb.own;subst e3;exact CK h0 j u hu
 ·exact eF.keep (aBT _) (fun b hF _=>⟨rfl,hF.1⟩) _ _ hb.parts
theorem Br.new (hK:In K w)(kind at_:Nat):Br (w.alloc (.cells #[vZZ kind,nZZ,vZZ at_] 178)) K w.heap.size kind at_ []:=
 ⟨none,0,[],⟨fun h=>Nat.lt_irrefl _ (hK _ h),aV.new _ _ _,aCW _ _ _ _,fun q hq=>by simp[Value.ownBlock] at hq,rfl⟩⟩
end
structure VX(w:World)(K:Nat->Prop)(g gt:Nat)(s:Bs)(T:List Tk):Prop where
 kg:K g
 kt:K gt
 ne:gt≠g
 ex: ∃d A c D E vk vt,aV w gt 131 #[pZZ d,.slice A T.length c,vk,vt]/\K d/\d≠g/\aV w d 202 #[.string ⟨s.toArray⟩,D]/\fP w (fun x=>K x/\x≠g) A (fJ T)/\E=()
theorem VX.cZ {s:Bs}{T:List Tk}(h:VX w K g gt s T)(ha:fG K g w w'):VX w' K g gt s T:=by
 obtain⟨d,A,c,D,E,vk,vt,h1,h2,h3,h4,h5,h6⟩:=h.ex;exact⟨h.kg,h.kt,h.ne,d,A,c,D,E,vk,vt,h1.cZ ha h.kt h.ne,h2,h3,h4.cZ ha h2 h3,h5.keep ha.size fun b hb _=>⟨ha.sI b hb.1 hb.2,hb⟩,h6⟩
theorem VX.mono {K':Nat->Prop}{s:Bs}{T:List Tk}(h:VX w K g gt s T)(hK: ∀x,K x->K' x):VX w K' g gt s T:=by
 obtain⟨d,A,c,D,E,vk,vt,h1,h2,h3,h4,h5,h6⟩:=h.ex;exact⟨hK _ h.kg,hK _ h.kt,h.ne,d,A,c,D,E,vk,vt,h1,hK _ h2,h3,h4,h5.keep (aBT _) fun b hb _=>⟨rfl,hK _ hb.1,hb.2⟩,h6⟩
structure Nq(w:World)(K:Nat->Prop)(g gt:Nat)(s:Bs)(T:List Tk)(b n i:Nat):Prop where
 rd:aV w g 205 #[pZZ gt,vZZ i,vZZ b,vZZ n]
 tr:VX w K g gt s T
theorem Nq.mono {K':Nat->Prop}{s:Bs}{T:List Tk}(h:Nq w K g gt s T b n i)(hK: ∀x,K x->K' x):Nq w K' g gt s T b n i:=⟨h.rd,h.tr.mono hK⟩
theorem Nq.below {s:Bs}{T:List Tk}(h:Nq w K g gt s T b n i)(hb:Below w.heap.size w w')(hK:In K w):Nq w' K g gt s T b n i:=
 ⟨h.rd.below hb h.rd.lt,h.tr.cZ (fG.below hb hK)⟩
theorem fP.tk {F:Nat->Prop}{A:Option Addr}{T:List Tk}{k:Nat}(h:fP w F A (fJ T))(hk:k<T.length):
  ∃b o,A=some ⟨b,o,none⟩/\F b/\b<w.heap.size/\w.cell? ⟨b,o+k*3,none⟩=some (kZZ (T[k].1:Int))/\w.cell? ⟨b,o+k*3+1,none⟩=some (kZZ (T[k].2.1:Int))/\w.cell? ⟨b,o+k*3+2,none⟩=some (kZZ (T[k].2.2:Int)):=by
 have hl:=rG T;obtain⟨b,o,e,hF,hb,hc⟩:=h (by omega);refine⟨b,o,e,hF,hb,?_,?_,?_⟩
 ·exact hc (k*3) _ (by have:=uB T k 0 (by omega) hk;simpa [Cv] using this)
 ·have:=hc (k*3+1) _ (by have:=uB T k 1 (by omega) hk;simpa [Cv] using this)
  rwa [<-aDU] at this
 ·have:=hc (k*3+2) _ (by have:=uB T k 2 (by omega) hk;simpa [Cv] using this)
  rwa [<-aDU] at this
theorem NR(k:Nat)(w:World):Calls aBS 137 #[vZZ k] w fun e w'=>e=.returned (.bool (k==1||k==2))/\w'=w:=by
 by_cases h1:k=1
 ·subst h1
  go_enter func137,ntmps137
  go_wp2
  go_ret;exact⟨rfl,rfl⟩
 ·have e1:((k:Int)==1)=false:=(by simp;omega);have f1:(k==1)=false:=(by simpa using h1);rw[f1,Bool.false_or]
  by_cases h2:k=2
  ·subst h2
   go_enter func137,ntmps137
   go_wp2
   go_ret;exact⟨rfl,rfl⟩
  ·have e2:((k:Int)==2)=false:=(by simp;omega);have f2:(k==2)=false:=(by simpa using h2);rw[f2];clear h1 h2 f1 f2
   go_enter func137,ntmps137
   go_wp2
   go_ret;exact⟨rfl,rfl⟩
theorem Nq.cells {s:Bs}{T:List Tk}(h:Nq w K g gt s T b n i):
  w.cell? ⟨g,0,none⟩=some (pZZ gt)/\w.cell? ⟨g,1,none⟩=some (vZZ i)/\w.cell? ⟨g,2,none⟩=some (vZZ b)/\w.cell? ⟨g,3,none⟩=some (vZZ n):=by
 have c0:=h.rd.cell 0;have c1:=h.rd.cell 1;have c2:=h.rd.cell 2;have c3:=h.rd.cell 3;simp at c0 c1 c2 c3;exact⟨c0,c1,c2,c3⟩
theorem VX.cells {s:Bs}{T:List Tk}(h:VX w K g gt s T):
  ∃d A c,w.cell? ⟨gt,0,none⟩=some (pZZ d)/\w.cell? ⟨gt,1,none⟩=some (.slice A T.length c)/\w.cell? ⟨d,0,none⟩=some (.string ⟨s.toArray⟩)/\fP w (fun x=>K x/\x≠g) A (fJ T):=by
 obtain⟨d,A,c,D,E,vk,vt,h1,h2,h3,h4,h5,h6⟩:=h.ex;have c0:=h1.cell 0;have c1:=h1.cell 1;have d0:=h4.cell 0;simp at c0 c1 d0;exact⟨d,A,c,c0,c1,d0,h5⟩
theorem pF{s:Bs}{T:List Tk}(hS:Nq w K g gt s T b n i)(hi:i<=T.length)(hT:T.length<=8388608):
  Calls aBS 104 #[pZZ g] w fun e w'=>e=.returned (kZZ (Tr.aH T i:Int))/\w'=w:=by
 obtain⟨g0,g1,_,_⟩:=hS.cells;obtain⟨d,A,c,t0,t1,_,hrow⟩:=hS.tr.cells;clear hS;generalize hR:Tr.aH T i=R;have HR:=aB hR;clear hR
 go_enter func104,ntmps104
 go_wp2
 go_loop [3] (fun v=> ∃k:Nat,k<=T.length/\v=kZZ k/\aC (Tr.aH T k=R)) (fun v=>T.length-(intOf v).toNat)
 case atStart=>exact⟨i,hi,rfl,HR⟩
 case round=>
  obtain⟨k,hk,rfl,Hk⟩:=hrel;have i0:=iZ k
  by_cases hlt:k<T.length
  ·have i1:=jJ k T.length;obtain⟨br,o,rfl,_,_,q0,_,_⟩:=hrow.tk hlt;have rZ:aC (Tr.dY T[k]=true->Tr.aH T (k+1)=R):=fun h=>(by rw[<-Tr.Dn T k hlt h];exact Hk.o);have kC:aC (Tr.dY T[k]=false->R=k):=fun h=>(by rw[<-Hk.o];exact Tr.QY T k hlt h);have Fy:aC (Tr.dY T[k]=(T[k].1==1||T[k].1==2)):=rfl;have hbw:=fun w=>NR T[k].1 w
   generalize T[k].1=kd at *;cases hb:(kd==1||kd==2)with
   |true=>
    rw[hb] at hbw Fy;have Hb:=rZ.o Fy.o;clear hb Fy rZ kC HR;have Hb:=aB Hb;go_wp2_with (refine(hbw _).mono ?_;rintro e w' ⟨rfl,rfl⟩)
    go_round
    case rel=>exact⟨k+1,by omega,by go_num,Hb⟩
    case measure=>simp[intOf];omega
   |false=>rw[hb] at hbw Fy;have Hb:=kC.o Fy.o;clear hb Fy rZ kC HR Hk;have Hb:=aB Hb;go_wp2_with (refine(hbw _).mono ?_;rintro e w' ⟨rfl,rfl⟩);go_ret;exact⟨by rw[Hb.o];rfl,rfl⟩
  ·have i1: ¬(k:Int)<(T.length:Int):=(by omega);have Hb:aC (R=k):=(by show _=_;rw[<-Hk.o];exact Tr.YK T k (by omega));clear Hk HR hlt
   go_wp2
   go_ret;exact⟨by rw[Hb.o];rfl,rfl⟩
theorem uZ{d:Nat}{s:Bs}(t0:w.cell? ⟨gt,0,none⟩=some (pZZ d))(d0:w.cell? ⟨d,0,none⟩=some (.string ⟨s.toArray⟩)):
  Calls aBS 106 #[pZZ gt] w fun e w'=>e=.returned (.string ⟨s.toArray⟩)/\w'=w:=by
 have hd:Calls aBS 153 #[pZZ d] w fun e w'=>e=.returned (.string ⟨s.toArray⟩)/\w'=w:=by
  go_enter func153,ntmps153
  go_wp2
  go_ret;exact⟨rfl,rfl⟩
 go_enter func106,ntmps106
 go_wp2_with (refine hd.mono ?_;rintro e w' ⟨rfl,rfl⟩);go_ret;exact⟨rfl,rfl⟩
theorem Tr.Good.at_ {s:List UInt8}{T:List Tk}(h:Tr.Good s T){k:Nat}(hk:k<T.length):T[k].2.1+T[k].2.2<=s.length/\1<=T[k].1/\T[k].1<=8:=h.WK _ (List.getElem_mem hk)
theorem yG(s:Bs)(t:Tk):Value.string ((⟨s.toArray⟩:ByteArray).extract t.2.1 (t.2.1+t.2.2))=.string ⟨(Tr.jI s t).toArray⟩:=by
 rw[DL];unfold ET Tr.jI
 congr 3
 rw[List.drop_take,Nat.add_sub_cancel_left]
theorem zW{s:Bs}{T:List Tk}(k:Nat)(hS:Nq w K g gt s T b n i)(hG:Tr.Good s T)(hs:s.length<=8388608)(hk:k<=8388608):
  Calls aBS 196 #[pZZ g,vZZ k] w fun e w'=>e=.returned (.tuple #[kZZ (Tr.bR T k:Int),.string ⟨(Tr.gX s T k).toArray⟩])/\Below w.heap.size w w':=by
 obtain⟨g0,g1,_,_⟩:=hS.cells;obtain⟨d,A,c,t0,t1,d0,hrow⟩:=hS.tr.cells;have hgl:=hS.rd.lt;clear hS;have i0:=iZ k
 by_cases hlt:k<T.length
 ·have i1:=jJ k T.length;obtain⟨br,o,rfl,_,hbl,q0,q1,q2⟩:=hrow.tk hlt;obtain⟨h1,h2,h3⟩:=hG.at_ hlt;have Hk:=aB (Tr.tC T k hlt);have Ht:=aB (Tr.yB s T k hlt);have uU:=aB (yG s T[k]);generalize Tr.bR T k=kk at *;generalize Tr.gX s T k=tt at *;generalize T[k]=t at *;obtain⟨tk,ta,tl⟩:=t;dsimp only at h1 h2 h3 q0 q1 q2;have hgt:=aDA w ⟨gt,0,none⟩ t0;have hd:=aDA w ⟨d,0,none⟩ d0;have hb0:=nR w (.cells #[vZZ tk,vZZ ta,vZZ tl] 127);have hB:aV (w.alloc (.cells #[vZZ tk,vZZ ta,vZZ tl] 127)) w.heap.size 127 #[vZZ tk,vZZ ta,vZZ tl]:=aV.new _ _ _;obtain⟨bx,hbx⟩:=dC w.heap.size;rw[<-hbx] at hB;clear hrow
  go_enter func196,ntmps196
  go_upto_region 4 with fail;rw[<-hbx];have e0:=(hb0.cell (p:=⟨gt,0,none⟩) hgt).trans t0;have f0:=(hb0.cell (p:=⟨d,0,none⟩) hd).trans d0;have r0:=(hb0.cell (p:=⟨g,0,none⟩) hgl).trans g0;clear hbx g0 g1 t0 t1 d0 q0 q1 q2 hgt hd hbl hgl;generalize w.alloc _=w1 at *;have b0:=hB.cell 0;have b1:=hB.cell 1;have b2:=hB.cell 2;simp at b0 b1 b2;have a0:aCQ.wrap ((ta:Int)+tl)=(ta:Int)+tl:=aCV _ (by omega);have a1:(0:Int)<=(ta:Int)+tl:=by omega
  have a2:((ta:Int)+tl).toNat=ta+tl:=(by omega);have a3:(ta:Int)+tl<=(s.length:Int):=(by omega);have a4:(ta:Int)<=(ta:Int)+tl:=(by omega);have a5:ta<=ta+tl:=(by omega);have a6:ta+tl<=s.length:=h1;have htx:=fun n=>uZ (w:=w1.drewN n) (gt:=gt) (d:=d) (s:=s) e0 f0
  go_quiet ((go_at_call 106;exact aFV (htx _)))
  go_wp2_with fail;go_ret2;exact⟨by rw[Hk.o,Ht.o,<-uU.o];rfl,below_drewN hb0 _⟩
 ·have i1:(T.length:Int)<=(k:Int):=(by omega);rw[Tr.mX T k (by omega),Tr.Po s T k (by omega)];clear hrow hG
  go_enter func196,ntmps196
  go_wp2
  go_ret2;exact⟨rfl,aBU _ _⟩
theorem vF{s:Bs}{T:List Tk}(hS:Nq w K g gt s T b n i)(hG:Tr.Good s T)(hb:b<=Tr.dD s T i)(hs:s.length<=8388608):
  Calls aBS 149 #[pZZ g] w fun e w'=>e=.returned (kZZ (Tr.bC s T b i:Int))/\∃m,w'=w.drewN m:=by
 obtain⟨g0,g1,g2,_⟩:=hS.cells;obtain⟨d,A,c,t0,t1,d0,hrow⟩:=hS.tr.cells;clear hS;have hal:=hG.Bj i;have i0:=iZ i
 by_cases hlt:i<T.length
 ·have i1:=jJ i T.length;obtain⟨br,o,rfl,_,hbl,q0,q1,q2⟩:=hrow.tk hlt;have HP:aC (Tr.bC s T b i=Tr.dD s T i-b):=rfl;rw[Tr.VU s T i hlt] at HP hb hal;clear hrow hG;generalize Tr.bC s T b i=P at *;generalize T[i]=t at *;obtain⟨tk,ta,tl⟩:=t;dsimp only at hb hal q0 q1 q2 HP;have a0:aCQ.wrap ((ta:Int)-b)=(ta:Int)-b:=aCV _ (by omega);have Hv:aC ((ta:Int)-b=(P:Int)):=(by show _=_;rw[HP.o];omega);clear HP
  go_enter func149,ntmps149
  go_wp2_with fail
  go_quiet (fail)
  go_wp2_with fail
  go_quiet (fail)
  go_wp2_with fail;go_ret;exact⟨by rw[<-Hv.o];rfl,_,World.drewN_drewN _ _ _⟩
 ·have i1: ¬(i:Int)<(T.length:Int):=(by omega);have HP:aC (Tr.bC s T b i=Tr.dD s T i-b):=rfl;rw[Tr.DW s T i (by omega)] at HP hb;clear hrow hG;generalize Tr.bC s T b i=P at *;have a0:aCQ.wrap ((s.length:Int)-b)=(s.length:Int)-b:=aCV _ (by omega);have Hv:aC ((s.length:Int)-b=(P:Int)):=(by show _=_;rw[HP.o];omega);clear HP hlt hal
  go_enter func149,ntmps149
  go_wp2_with fail
  go_quiet (fail)
  obtain⟨w1,hw1⟩:=dC (World.drewN w nq);have k0:w1.cell? ⟨g,0,none⟩=some (pZZ gt):=(by rw[hw1];exact g0);have k2:w1.cell? ⟨g,2,none⟩=some (vZZ b):=(by rw[hw1];exact g2);have e0:w1.cell? ⟨gt,0,none⟩=some (pZZ d):=(by rw[hw1];exact t0);have f0:w1.cell? ⟨d,0,none⟩=some (.string ⟨s.toArray⟩):=(by rw[hw1];exact d0);rw[<-hw1];have Hw1:=aB hw1;clear g0 g1 g2 t0 t1 d0 hw1;have htx:=fun n=>uZ (w:=w1.drewN n) (gt:=gt) (d:=d) (s:=s) e0 f0
  go_wp2_with fail
  go_quiet ((go_at_call 106;exact aFV (htx _)))
  go_wp2_with fail;go_ret;exact⟨by rw[<-Hv.o];rfl,_,by rw[Hw1.o];exact World.drewN_drewN _ _ _⟩
def Wv(r:Int)(l:List Bs)(x:Bs):Prop:=decide (0<=r)=l.contains x
theorem YZ(A:Option Addr)(c:Nat)(l:List Bs)(x:Bs)(w:World)(h1:Rd w w.heap.size 1 A l.length (mR l))(hl:l.length<=8388608):
  Calls aBS 227 #[.slice A l.length c,.string ⟨x.toArray⟩] w fun e w'=> ∃r:Int,e=.returned (kZZ r)/\Wv r l x/\w'=w:=by
 go_enter func227,ntmps227
 go_wp2_with fail
 go_loop [8] (fun i=> ∃k:Nat,k<=l.length/\i=kZZ k/\aC (x∉l.take k)) (fun i=>l.length-(intOf i).toNat)
 case atStart=>exact⟨0,aBZ _,rfl,by show _∉_;simp⟩
 case round=>
  obtain⟨k,hk,rfl,H⟩:=hrel
  by_cases hlt:k<l.length
  ·obtain⟨b,o,rfl,hbB,c0⟩:=Rd.txt h1 hlt;have i1:=iZ k;have i2:=jJ k l.length;have kC:aC (x≠l[k]->x∉l.take (k+1)):=fun h=>by
    rw[List.take_succ_eq_append_getElem hlt,List.mem_append,List.mem_singleton];rintro(h2|h2)
    ·exact H.o h2
    ·exact h h2
   have Hin:aC (x=l[k]->l.contains x=true):=fun h=>(by rw[h];simp);unfold ET at c0;generalize l[k]=y at *
   by_cases hxy:x=y
   ·have hc:=aB (Hin.o hxy);subst hxy;go_wp2_with fail;go_ret;exact⟨_,rfl,by unfold Wv;rw[hc.out];simp,rfl⟩
   ·have d1:(x==y)=false:=(by simp[hxy]);have Hn:=aB (kC.o hxy);clear hxy;go_wp2_with fail
    go_round
    case rel=>exact⟨k+1,by omega,by go_num,Hn.o⟩
    case measure=>simp[intOf];omega
  ·obtain rfl:k=l.length:=(by omega);have hc:aC (l.contains x=false):=(by show _=_;have:=H.o;rw[List.take_length] at this;simpa using this);go_wp2_with fail;go_ret;exact⟨_,rfl,by unfold Wv;rw[hc.out];rfl,rfl⟩
theorem NI(A:Option Addr)(c:Nat)(l:List Bs)(x:Bs)(w:World)(h1:Rd w w.heap.size 1 A l.length (mR l))(hl:l.length<=8388608):
  Calls aBS 197 #[.slice A l.length c,.string ⟨x.toArray⟩] w fun e w'=>e=.returned (.bool (l.contains x))/\w'=w:=by
 have hI:=YZ A c l x w h1 hl
 go_enter func197,ntmps197
 go_wp2_with fail;refine hI.mono ?_;clear hI;rintro e w' ⟨r,rfl,Hr,rfl⟩;go_wp2_with fail;go_ret;exact⟨by rw[<-show decide (0<=r)=l.contains x from Hr];rfl,rfl⟩
end Go.Proofs.YtcjjfeephaddcaaGreatDoor
