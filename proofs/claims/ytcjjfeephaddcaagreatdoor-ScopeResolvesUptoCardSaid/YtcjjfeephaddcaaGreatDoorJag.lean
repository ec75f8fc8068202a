import Derived.Test.YtcjjfeephaddcaaGreatDoorJaf
import Derived.Maps.OwnOps
import Derived.Carry
import Derived.Deep.CutBlock
set_option linter.all false
open Go.Proofs.Tryz renaming prog->aBS
open Go.RowKit.Below renaming refl->aBU,heap_setCell->aCG
open Go.Value renaming slice->aBX,oneCell'->aCA
open Go.World renaming setCell->aCI,news_of_block->aCK
open Nat renaming le_refl->aBT,zero_le->aBZ,lt_of_lt_of_le->aCF
set_option maxHeartbeats 64000000
set_option maxRecDepth 100000
open Go.Proofs.Tryz
namespace Go.Proofs.YtcjjfeephaddcaaGreatDoor
open Go.RowKit
variable{w:World}{K:Nat->Prop}{b g gt h i n:Nat}{pts:List Tr.PT}
theorem I7.old {w1 w':World}{s:Bs}{T:List Tk}{r:Tr.PT×Nat}{e:Ending}(R:jB w K g gt s T b n i)(hd:Below w.heap.size w w1)(h:I7 w1 (Old w1) g gt s T b n r e w'):I7 w K g gt s T b n r e w':=by
 obtain⟨v,he,hA,R',hp⟩:=h;have R1:=R.below hd;have ha:fG K g w w':=(Kept.cZ (Kept.below hd R.dL) g).trans (hA.old R1.dL);exact⟨v,he,ha,R.dH R' ha,hp.dH R1.dL⟩
theorem r_(w:World)(o:Obj):w.heap.size<(w.alloc o).heap.size:=by simp
section
variable{w:World}{K:Nat->Prop}{g gt:Nat}{s:Bs}{T:List Tk}{b n i:Nat}
theorem Df(X:iN s T)(R:jB w K g gt s T b n i){F:Nat}{one:Nat->Tr.PT×Nat}(ho:VZ g gt s T b n F one)(hg:Tr.Goes T one)(l:List Bs)(hl:l.length<=1000)(c:Nat):
  Calls aBS 254 #[pZZ g,.func (.func F) #[pZZ g] #[],.slice (some ⟨w.heap.size,0,none⟩) l.length c] (w.alloc (.cells (mR l).toArray 9)) (I7 w K g gt s T b n (Tr.rowP s T b one l i)):=by
 have hd:=nR w (.cells (mR l).toArray 9);have R1:=(R.below hd).old;exact(Pz X R1 ho hg w.heap.size c l (r_ w _) (by have:=R.rs.rd.lt;omega) (Rc w l _) hl).mono fun e w' h=>I7.old R hd h
theorem UD(X:iN s T)(R:jB w K g gt s T b n i){one:Nat->Tr.PT×Nat}(ho:VZ g gt s T b n 267 one)(hg:Tr.Goes T one):
  Calls aBS 255 #[pZZ g] w (I7 w K g gt s T b n (Tr.rowP s T b one [[42]] i)):=by
 have h:Calls aBS 254 #[pZZ g,.func (.func 267) #[pZZ g] #[],.slice (some ⟨w.heap.size,0,none⟩) 1 1] (w.alloc (.cells #[.string ⟨#[42]⟩] 9)) (I7 w K g gt s T b n (Tr.rowP s T b one [[42]] i)):=Df X R ho hg [[42]] (by simp) 1
 generalize Tr.rowP s T b one [[42]] i=r at *
 go_enter func255,ntmps255
 go_wp2_with fail;refine h.mono ?_;intro e w' h1;obtain⟨v,rfl,hA,R',hp⟩:=h1;go_wp2_with fail;go_ret;exact⟨v,rfl,hA,R',hp⟩
theorem Pp(X:iN s T)(R:jB w K g gt s T b n i){one:Nat->Tr.PT×Nat}(ho:VZ g gt s T b n 255 one)(hg:Tr.Goes T one):
  Calls aBS 245 #[pZZ g] w (I7 w K g gt s T b n (Tr.rowP s T b one [[43],[45],[43,43]] i)):=by
 have h:Calls aBS 254 #[pZZ g,.func (.func 255) #[pZZ g] #[],.slice (some ⟨w.heap.size,0,none⟩) 3 3] (w.alloc (.cells #[.string ⟨#[43]⟩,.string ⟨#[45]⟩,.string ⟨#[43,43]⟩] 9)) (I7 w K g gt s T b n (Tr.rowP s T b one [[43],[45],[43,43]] i)):=Df X R ho hg [[43],[45],[43,43]] (by simp) 3
 generalize Tr.rowP s T b one [[43],[45],[43,43]] i=r at *
 go_enter func245,ntmps245
 go_wp2_with fail;refine h.mono ?_;intro e w' h1;obtain⟨v,rfl,hA,R',hp⟩:=h1;go_wp2_with fail;go_ret;exact⟨v,rfl,hA,R',hp⟩
theorem JC(X:iN s T)(R:jB w K g gt s T b n i){one:Nat->Tr.PT×Nat}(ho:VZ g gt s T b n 245 one):
  Calls aBS 234 #[pZZ g] w (I7 w K g gt s T b n (if Tr.aW s T [[61,61],[60]] (one i).2 then Tr.iA s T b one (one i)else one i)):=by
 have h1:=ho.calls w K i R;generalize one i=q at *;have HT:aC (Tr.aW s T [[61,61],[60]] q.2=true->(if Tr.aW s T [[61,61],[60]] q.2 then Tr.iA s T b one q else q)=Tr.iA s T b one q):=fun h=>if_pos h
 have HF:aC (Tr.aW s T [[61,61],[60]] q.2=false->(if Tr.aW s T [[61,61],[60]] q.2 then Tr.iA s T b one q else q)=q):=fun h=>if_neg (by rw[h];simp)
 generalize(if Tr.aW s T [[61,61],[60]] q.2 then Tr.iA s T b one q else q)=r at *
 go_enter func234,ntmps234
 go_wp2_with fail;refine h1.mono ?_;clear h1;intro e w1 h1;obtain⟨v,rfl,hA,R,hp⟩:=h1;have his:Calls aBS 150 #[pZZ g,.slice (some ⟨w1.heap.size,0,none⟩) 2 2] (w1.alloc (.cells #[.string ⟨#[61,61]⟩,.string ⟨#[60]⟩] 9)) fun e w'=>e=.returned (.bool (Tr.aW s T [[61,61],[60]] q.2))/\Below w1.heap.size w1 w':=rT X R [[61,61],[60]] (by simp) 2
 generalize Tr.aW s T [[61,61],[60]] q.2=vb at *
 go_wp2_with fail;refine his.mono ?_;clear his;rintro e w2 ⟨rfl,hd⟩;have hA:=hA.trans (Kept.cZ (Kept.below hd R.dL) g);have hp:dE w2 (fun x=> ¬K x) q.1 v:=dE.keep hd.size (fun y hF hl=>⟨hd.block y hl,hF⟩) _ _ hp;have R:=R.below hd;clear hd;cases vb with
 |true=>have Hr:=aB (HT.o rfl);clear HT HF;have hbw:=IL X R hp ho;go_wp2_with fail;refine hbw.mono ?_;clear hbw R hp;intro e w3 h3;obtain⟨v3,rfl,hA3,R3,hp3⟩:=h3;go_wp2_with fail;go_ret;rw[Hr.o];exact⟨v3,rfl,hA.trans hA3,R3,hp3⟩
 |false=>have Hr:=aB (HF.o rfl);clear HT HF;go_wp2_with fail;go_ret;rw[Hr.o];exact⟨v,rfl,hA,R,hp⟩
end
theorem jB.nest {s:Bs}{T:List Tk}(h:jB w K g gt s T b n i)(m:Nat):jB (w.setCell ⟨g,3,none⟩ (vZZ m)) K g gt s T b m i:=by
 have h1:=(h.rs.rd.bD 3 (vZZ m));simp at h1;have ha:fG K g w (w.setCell ⟨g,3,none⟩ (vZZ m)):=(fG.refl K g w).set 3 _;exact⟨⟨h1,h.rs.tr.cZ ha⟩,h.dL.after ha.size,h.hi,h.hb⟩
theorem qJ{s:Bs}{T:List Tk}{h kind at_:Nat}(R:jB w K g gt s T b n i)(hn:n<=1000)(F:Nat)(caps:Array Value)(r:Tr.St)
  (hrun: ∀(args:Array Value) (w:World),(callFunc F args).run aBS w=.ok (.enter F args) w)
  (hf: ∀w1,fG (Old w) g w w1->jB w1 K g gt s T b (n+1) i->Calls aBS F caps w1 (I6 w1 K g gt h kind at_ s T b (n+1) r)):
  Calls aBS 230 #[pZZ g,.func (.func F) #[] caps] w (I6 w K g gt h kind at_ s T b n r):=by
 obtain⟨_,_,_,g3⟩:=R.rs.cells;have gf:=R.rs.rd.frozen 3;have hf1:=hf _ ((fG.refl (Old w) g w).set 3 (kZZ ((n+1:Nat):Int))) (R.nest (n+1))
 try unfold vZZ at hf1
 rw[show((n+1:Nat):Int)=(n:Int)+1 by omega] at hf1;have hA0:fG K g w (w.setCell ⟨g,3,none⟩ (kZZ ((n:Int)+1))):=(fG.refl K g w).set 3 _
 go_enter func230,ntmps230
 go_wp2_with fail;refine hf1.mono ?_;clear hf hf1 g3 gf;intro e w2 h2;obtain⟨rfl,hA,R2,hB⟩:=h2;obtain⟨_,_,_,g3⟩:=R2.rs.cells
 try unfold vZZ at g3
 rw[show((n+1:Nat):Int)=(n:Int)+1 by omega] at g3;have gf:=R2.rs.rd.frozen 3;have hw:IntKind.i64.wrap ((n:Int)+1-1)=n:=by rw[IntWalk.i64_in _ (by omega)];omega
 have HR:=aB (R2.nest n);have HB:=aB (hB.seen R2.ng 3 (vZZ n));have HA:=aB ((hA0.trans hA).set 3 (vZZ n));clear hA0 hA R2 hB R;go_wp2_with fail;go_end0;exact⟨rfl,by have:=HA.o;simpa using this,by have:=HR.o;simpa using this,by have:=HB.o;simpa using this⟩
structure qU(w0:World)(K:Nat->Prop)(g gt h kind at_:Nat)(s:Bs)(T:List Tk)(b n i c:Nat)(st:Tr.St)(w:World):Prop where
 A:fG K g w0 w
 R:jB w K g gt s T b n st.2
 B:Br w K h kind at_ st.1
 ok:Tr.nD T i c st
section
variable{w0 w w':World}{K:Nat->Prop}{g gt h kind at_:Nat}{s:Bs}{T:List Tk}{b n i c d:Nat}{st:Tr.St}{f:Nat->Tr.St}{e:Ending}
theorem qU.len (S:qU w0 K g gt h kind at_ s T b n i c st w)(X:iN s T)(hc:c<=1000):st.1.length<=10000000:=by
 have h1:=S.ok.2.2;have h2:=S.ok.2.1;have:=X.hT;omega
theorem qU.step (S:qU w0 K g gt h kind at_ s T b n i c st w)(hf:Tr.oQ T f d)(he:I6 w K g gt h kind at_ s T b n (Tr.thn st f) e w'):e=.returned (.tuple #[])/\qU w0 K g gt h kind at_ s T b n i (c+d) (Tr.thn st f) w':=
 ⟨he.1,S.A.trans he.2.1,he.2.2.1,he.2.2.2,S.ok.thn hf⟩
theorem qU.below (S:qU w0 K g gt h kind at_ s T b n i c st w)(hd:Below w.heap.size w w'):qU w0 K g gt h kind at_ s T b n i c st w':=
 ⟨S.A.trans (Kept.cZ (Kept.below hd S.R.dL) g),S.R.below hd,S.B.below hd,S.ok⟩
theorem qU.mono (S:qU w0 K g gt h kind at_ s T b n i c st w)(hd:c<=d):qU w0 K g gt h kind at_ s T b n i d st w:=⟨S.A,S.R,S.B,S.ok.mono hd⟩
theorem kD(X:iN s T)(S:qU w0 K g gt h kind at_ s T b n i c st w)(word:Bs)(hc:c<=1000):
  Calls aBS 200 #[pZZ g,pZZ h,.string ⟨word.toArray⟩] w fun e w'=>e=.returned (.tuple #[])/\qU w0 K g gt h kind at_ s T b n i (c+1) (Tr.thn st (Tr.aN s T b word)) w':=
 (Gi X S.R S.B word (by have:=S.len X hc;omega)).mono fun _ _ he=>S.step (Tr.cK s T b word) he
theorem iO(X:iN s T)(S:qU w0 K g gt h kind at_ s T b n i c st w)(hc:c<=1000):
  Calls aBS 199 #[pZZ g,pZZ h] w fun e w'=>e=.returned (.tuple #[])/\qU w0 K g gt h kind at_ s T b n i (c+0) (Tr.thn st (Tr.aK s T b)) w':=
 (yE X S.R S.B (by have:=S.len X hc;omega)).mono fun _ _ he=>S.step (Tr.gD s T b) he
theorem vG(X:iN s T)(S:qU w0 K g gt h kind at_ s T b n i c st w)(hc:c<=1000):
  Calls aBS 201 #[pZZ g,pZZ h] w fun e w'=>e=.returned (.tuple #[])/\qU w0 K g gt h kind at_ s T b n i (c+1) (Tr.thn st (Tr.aQ s T b)) w':=
 (U6 X S.R S.B (by have:=S.len X hc;omega)).mono fun _ _ he=>S.step (Tr.iM s T b) he
theorem aBr(X:iN s T)(S:qU w0 K g gt h kind at_ s T b n i c st w)(l:List Bs)(hl:l.length<=1000)(cc:Nat):
  Calls aBS 150 #[pZZ g,.slice (some ⟨w.heap.size,0,none⟩) l.length cc] (w.alloc (.cells (mR l).toArray 9)) fun e w'=>e=.returned (.bool (Tr.aW s T l st.2))/\qU w0 K g gt h kind at_ s T b n i c st w':=
 (rT X S.R l hl cc).mono fun _ _ ⟨h1,h2⟩=>⟨h1,S.below h2⟩
theorem vM(X:iN s T)(S:qU w0 K g gt h kind at_ s T b n i c st w)(word:Bs):
  Calls aBS 150 #[pZZ g,.slice (some ⟨w.heap.size,0,none⟩) 1 1] (w.alloc (.cells #[.string ⟨word.toArray⟩] 9)) fun e w'=>e=.returned (.bool (Tr.aW s T [word] st.2))/\qU w0 K g gt h kind at_ s T b n i c st w':=
 aBr X S [word] (by simp) 1
theorem lX(X:iN s T)(R:jB w K g gt s T b n i)(kind:Nat):
  Calls aBS 198 #[pZZ g,vZZ kind] w fun e w'=>e=.returned (.pointer (some ⟨w.heap.size,0,none⟩))/\w'.heap.size=w.heap.size+1/\Below w.heap.size w w'/\qU w (Old w) g gt w.heap.size kind (Tr.bC s T b i) s T b n i 0 ([],i) w':=
 (G5 X R kind).mono fun e w' ⟨h1,h2,h3,h4⟩=>⟨h1,h3,h2,Kept.cZ (Kept.below h2 (Old.WK w)) g,R.old.below h2,h4 _ (Old.WK w),aBT _,R.hi,by simp⟩
end
theorem sO(i:Nat)(f:Nat->Tr.St):Tr.thn ([],i) f=f i:=by unfold Tr.thn;simp
theorem dE.pushB {w0:World}{A:Option Addr}{c:Nat}{p:Tr.PT}{v:Value}(hp:dE w (fun x=> ¬Old w0 x) p v)(hK:In K w0)(h0:h<w0.heap.size)(hr: ∀q,(aBX A pts.length c).ownBlock=some q->q<w0.heap.size):
  dE w (fun x=> ¬K x/\x≠h/\some x≠(aBX A pts.length c).ownBlock) p v:=
 dE.keep (aBT _) (fun _ hF _=>⟨rfl,fun hk=>hF (hK _ hk),fun e=>hF (e▸h0),fun e=>hF (hr _ e.symm)⟩) _ _ hp
theorem YE{s:Bs}{T:List Tk}{kind at_:Nat}(X:iN s T)(R:jB w K g gt s T b n i)(hb:Br w K h kind at_ pts)(hl:pts.length<=40000000):
  Calls aBS 202 #[pZZ g,pZZ h] w (I6 w K g gt h kind at_ s T b n (Tr.thn (pts,i) fun i=>Tr.aS (Tr.bB s T b i))):=by
 obtain⟨i0,ji,iW,jz1,iV⟩:=info_parts qF;have hbr:=lX X R 6;have HP:aC ((Tr.thn (pts,i) fun i=>Tr.aS (Tr.bB s T b i))=(pts++[(.branch 6 (Tr.bC s T b i) (Tr.thn (if Tr.aW s T [[41]] (Tr.aN s T b [40] i).2 then Tr.aN s T b [40] i else Tr.dK s T b (Tr.aQ s T b) (T.length+1) (Tr.thn (Tr.aN s T b [40] i) (Tr.aQ s T b))) (Tr.aN s T b [41])).1)],(Tr.thn (if Tr.aW s T [[41]] (Tr.aN s T b [40] i).2 then Tr.aN s T b [40] i else Tr.dK s T b (Tr.aQ s T b) (T.length+1) (Tr.thn (Tr.aN s T b [40] i) (Tr.aQ s T b))) (Tr.aN s T b [41])).2)):=rfl
 rw[HP.o];clear HP;generalize Tr.bC s T b i=pl at *;obtain⟨st,BA⟩:=dC (Tr.aN s T b [40] i);rw[<-BA];have J3:=aB BA;clear BA;have HT:aC (Tr.aW s T [[41]] st.2=true->(if Tr.aW s T [[41]] st.2 then st else Tr.dK s T b (Tr.aQ s T b) (T.length+1) (Tr.thn st (Tr.aQ s T b)))=st):=fun h=>if_pos h
 have HF:aC (Tr.aW s T [[41]] st.2=false->Tr.dK s T b (Tr.aQ s T b) (T.length+1) (Tr.thn st (Tr.aQ s T b))=(if Tr.aW s T [[41]] st.2 then st else Tr.dK s T b (Tr.aQ s T b) (T.length+1) (Tr.thn st (Tr.aQ s T b)))):=fun h=>(if_neg (by rw[h];simp)).symm
 generalize(if Tr.aW s T [[41]] st.2 then st else Tr.dK s T b (Tr.aQ s T b) (T.length+1) (Tr.thn st (Tr.aQ s T b)))=st2 at *
 obtain⟨O1,AZ⟩:=dC (Tr.thn st2 (Tr.aN s T b [41]));rw[<-AZ];have J2:=aB AZ;clear AZ;obtain⟨hp0,fB⟩:=dC w.heap.size;rw[<-fB] at hbr;clear fB;obtain⟨A,c,vs,hb⟩:=hb;have h0:=hb.blk.lt;have hr:=hb.kF;have vQ:=R.dL
 go_enter func202,ntmps202
 go_wp2_with fail;refine hbr.mono ?_;clear hbr;rintro e w1 ⟨rfl, -, -,S⟩;have hwt:=kD X S [40] (by omega);rw[sO,<-J3.o] at hwt;clear S;go_wp2_with fail;refine hwt.mono ?_;clear hwt;rintro e w2 ⟨rfl,S⟩;have his:=vM X S [41];clear S;generalize Tr.aW s T [[41]] st.2=vb at *
 go_wp2_with fail;refine his.mono ?_;clear his;rintro e w3 ⟨rfl,S⟩;go_upto_if 13 with fail
 go_cut [13] (fun _ wc=>qU w (Old w) g gt hp0 6 pl s T b n i 2 st2 wc)
 case first=>
  cases vb with
  |true=>have hst:=HT.o rfl;subst hst;go_wp2_with fail;go_meet;exact S.mono (by omega)
  |false=>
   have kC:=aB (HF.o rfl);clear HT HF;have hnm:=vG X S (by omega);clear S;go_wp2_with fail;refine hnm.mono ?_;clear hnm;rintro e w4 ⟨rfl,S⟩;go_wp2_with fail
   go_loopg [17] (T.length-(Tr.thn st (Tr.aQ s T b)).2) (fun q v wr=> ∃y:Tr.St,(Tr.thn st (Tr.aQ s T b)).2<=y.2/\T.length-y.2<=q/\aC (Tr.dK s T b (Tr.aQ s T b) (T.length+1) y=st2)/\qU w (Old w) g gt hp0 6 pl s T b n i 2 y wr)
   case atStart=>exact⟨_,aBT _,aBT _,kC,S⟩
   case round=>
    clear S kC;obtain⟨y,hy1,hq,Hy,S⟩:=hrel;have his:=vM X S [44];have Ee:=S.ok.2.1;have hna:=Tr.iM s T b;have rZ:aC (Tr.aW s T [[44]] y.2=true->Tr.dK s T b (Tr.aQ s T b) (T.length+1) (Tr.fC s T b (Tr.aQ s T b) y)=st2/\y.2<(Tr.fC s T b (Tr.aQ s T b) y).2/\Tr.nD T i 2 (Tr.fC s T b (Tr.aQ s T b) y)):=fun h=>by have h1:=Tr.nN s T b hna y Ee (Tr.is_lt s T h);refine⟨by rw[<-Tr.yM s T b hna y Ee h];exact Hy.o,h1.1,by have:=S.ok.1;omega,h1.2.1,by have:=S.ok.2.2;have:=S.ok.1;omega⟩
    have kC:aC (Tr.aW s T [[44]] y.2=false->y=st2):=fun h=>by rw[<-Tr.yL s T b (Tr.aQ s T b) y h];exact Hy.o
    clear S;generalize Tr.aW s T [[44]] y.2=vc at *
    go_wp2_with fail;refine his.mono ?_;clear his;rintro e w5 ⟨rfl,S⟩;cases vc with
    |true=>
     obtain⟨hg1,hg2,hg3⟩:=rZ.o rfl;have Yj:=aB hg1;clear rZ kC Hy hg1;have htk:=iO X S (by omega);clear S;go_wp2_with fail;refine htk.mono ?_;clear htk;rintro e w6 ⟨rfl,S⟩;have hnm:=vG X S (by omega);clear S;go_wp2_with fail;refine hnm.mono ?_;clear hnm;rintro e w7 ⟨rfl,S⟩;have hS:qU w (Old w) g gt hp0 6 pl s T b n i 2 (Tr.fC s T b (Tr.aQ s T b) y) w7:=⟨S.A,S.R,S.B,hg3⟩;clear S;go_wp2_with fail
     go_roundg (T.length-(Tr.fC s T b (Tr.aQ s T b) y).2)
     case rel=>exact⟨_,by omega,aBT _,Yj,hS⟩
     case measure=>have:=hg3.2.1;omega
    |false=>have hst:=kC.o rfl;clear rZ kC Hy;subst hst;go_wp2_with fail;go_meet;exact S
 case rest=>clear HT HF S;have S:=hcut;clear hcut;have hwt:=kD X S [41] (by omega);clear S;rw[<-J2.o] at hwt;go_wp2_with fail;refine hwt.mono ?_;clear hwt;rintro e w5 ⟨rfl,S⟩;obtain⟨hA,R5,hB,hok⟩:=S;have Ju:=hB.part;have R:=R.dH R5 (hA.old R.dL);have hb:=hb.cZ hA R.ng (fun _ hx=>hx);have hA:=hA.old vQ;have hp:=Ju.pushB vQ h0 hr;have o1:=hb.blk.cell 1;simp at o1;clear Ju hB hok R5 h0 hr J3 J2;generalize Tr.PT.branch 6 pl O1.1=pb at *;generalize O1.2=ib at *;go_wp2_with (at_builtin;refine wpList_append_lies _ rfl _ _ 119 rfl 0 122 i0 _ 1 16 underlying119 ji iW jz1 iV rfl (by omega) _ pts.length _ rfl (hb.own.alloc _) ⟨w5.heap.size,0,none⟩ 1 1 [.iface 114 (pZZ hp0)] rfl rfl (aCK (cs:=#[.iface 114 (pZZ hp0)]) (t:=122) (fr:=(0,0)) (heap_alloc_new w5 _)) (by simp[aCA]) (by omega) (by unfold maxLen;omega) (by omega) (aBZ _) (w5.heap.size+1) (by simp) ?_;intro gg cap' w6 hown5 hgrow hat lD;have kX:=hb.push R.dL hp hown5 hgrow hat;have hg5:=(hb.blk.alloc (.cells #[.iface 114 (pZZ hp0)] 122)).grown hgrow hb.jP;have b1:=hg5.cell 1;have bf:=hg5.frozen 1;simp at b1);go_end0;exact⟨rfl,hA.trans (kX.2.cZ g),R.kept kX.2,kX.1⟩
theorem Br.kind {kind at_:Nat}(hb:Br w K h kind at_ pts)(k:Nat):Br (w.setCell ⟨h,0,none⟩ (vZZ k)) K h k at_ pts:=by
 obtain⟨A,c,vs,hb⟩:=hb;have h1:=hb.blk.bD 0 (vZZ k);simp at h1;have hz:w.heap.size<=(w.setCell ⟨h,0,none⟩ (vZZ k)).heap.size:=by simp[aCI]
 have hk: ∀x,x≠h->(w.setCell ⟨h,0,none⟩ (vZZ k)).heap[x]? =w.heap[x]? :=fun x hx=>aCG w ⟨h,0,none⟩ _ x hx
 exact⟨A,c,vs,hb.nk,h1,aM hb.own fun q hq=>hk q fun e=>hb.jP (by rw[<-e];exact hq.symm),hb.nr,
  eF.keep hz (fun x hF _=>⟨hk x hF.2.1,hF⟩) _ _ hb.parts⟩
theorem Kept.kind (hh: ¬K h)(v:Value):Kept K w (w.setCell ⟨h,0,none⟩ v):=
 ⟨by simp[aCI],fun x hx=>aCG w ⟨h,0,none⟩ v x fun e=>hh (by have e2:x=h:=e;rw[<-e2];exact hx),Calm.set w _ v⟩
theorem qU.kind {w0:World}{kind at_:Nat}{s:Bs}{T:List Tk}{c:Nat}{st:Tr.St}(S:qU w0 K g gt h kind at_ s T b n i c st w)(k:Nat):qU w0 K g gt h k at_ s T b n i c st (w.setCell ⟨h,0,none⟩ (vZZ k)):=
 ⟨S.A.trans ((Kept.kind S.B.nk _).cZ g),S.R.kept (Kept.kind S.B.nk _),S.B.kind k,S.ok⟩
structure Cj(g gt:Nat)(s:Bs)(T:List Tk)(b n:Nat)(e:Nat->Tr.St):Prop where
 SS:Tr.oQ T e 1
 calls: ∀(w:World) (K:Nat->Prop) (i h kind at_:Nat) (pts:List Tr.PT),jB w K g gt s T b n i->Br w K h kind at_ pts->pts.length<=40000000->
  Calls aBS 203 #[pZZ g,pZZ h] w (I6 w K g gt h kind at_ s T b n (Tr.thn (pts,i) e))
section
variable{w0 w:World}{K:Nat->Prop}{g gt h kind at_:Nat}{s:Bs}{T:List Tk}{b n i c:Nat}{st:Tr.St}{e:Nat->Tr.St}
theorem pX(X:iN s T)(E:Cj g gt s T b n e)(S:qU w0 K g gt h kind at_ s T b n i c st w)(hc:c<=1000):
  Calls aBS 203 #[pZZ g,pZZ h] w fun e' w'=>e'=.returned (.tuple #[])/\qU w0 K g gt h kind at_ s T b n i (c+1) (Tr.thn st e) w':=
 (E.calls _ _ _ _ _ _ _ S.R S.B (by have:=S.len X hc;omega)).mono fun _ _ he=>S.step E.SS he
end
theorem lM{w':World}{q:Nat}{t:TypeId}{v:Value}(h:aV w q t #[v])(ha:fG K g w w')(hq:K q)(hg:q≠g):w'.cell? ⟨q,0,none⟩=some v:=by
 have:=(h.cZ ha hq hg).cell 0;simpa using this
theorem V3{hl kl pl:Nat}{s:Bs}{T:List Tk}{e:Nat->Tr.St}(X:iN s T)(E:Cj g gt s T b n e)(S:qU w K g gt hl kl pl s T b n i 0 ([],i) w)(shut:Bs)(qr ql qe:Nat)
  (HB:aC (∀w',fG K g w w'->w'.cell? ⟨qr,0,none⟩=some (pZZ g)/\w'.cell? ⟨ql,0,none⟩=some (pZZ hl)/\w'.cell? ⟨qe,0,none⟩=some (.string ⟨shut.toArray⟩))):
  Calls aBS 286 #[pZZ qr,pZZ ql,pZZ qe] w (I6 w K g gt hl kl pl s T b n (Tr.thn (if Tr.aW s T [shut] (Tr.aK s T b i).2 then Tr.aK s T b i else Tr.dK s T b e (T.length+1) (Tr.thn (Tr.aK s T b i) e)) (Tr.aN s T b shut))):=by
 obtain⟨st,BA⟩:=dC (Tr.aK s T b i);rw[<-BA];have J3:=aB BA;clear BA;have HT:aC (Tr.aW s T [shut] st.2=true->(if Tr.aW s T [shut] st.2 then st else Tr.dK s T b e (T.length+1) (Tr.thn st e))=st):=fun h=>if_pos h
 have HF:aC (Tr.aW s T [shut] st.2=false->Tr.dK s T b e (T.length+1) (Tr.thn st e)=(if Tr.aW s T [shut] st.2 then st else Tr.dK s T b e (T.length+1) (Tr.thn st e))):=fun h=>(if_neg (by rw[h];simp)).symm
 generalize(if Tr.aW s T [shut] st.2 then st else Tr.dK s T b e (T.length+1) (Tr.thn st e))=st2 at *;obtain⟨O1,AZ⟩:=dC (Tr.thn st2 (Tr.aN s T b shut));rw[<-AZ];have J2:=aB AZ;clear AZ;obtain⟨k0,k1,k2⟩:=HB.o _ S.A;have htk:=iO X S (by omega);rw[sO,<-J3.o] at htk;clear S
 go_enter func286,ntmps286
 go_wp2_with fail;refine htk.mono ?_;clear htk k0 k1 k2;rintro e1 w2 ⟨rfl,S⟩;obtain⟨k0,k1,k2⟩:=HB.o _ S.A;have his:=vM X S shut;clear S;generalize Tr.aW s T [shut] st.2=vb at *;go_wp2_with fail;refine his.mono ?_;clear his k0 k1 k2;rintro e1 w3 ⟨rfl,S⟩;go_upto_if 10 with fail
 go_cut [10] (fun _ wc=>qU w K g gt hl kl pl s T b n i 2 st2 wc)
 case first=>
  cases vb with
  |true=>have hst:=HT.o rfl;subst hst;go_wp2_with fail;go_meet;exact S.mono (by omega)
  |false=>
   have kC:=aB (HF.o rfl);clear HT HF;obtain⟨k0,k1,k2⟩:=HB.o _ S.A;have hnm:=pX X E S (by omega);clear S;go_wp2_with fail;refine hnm.mono ?_;clear hnm k0 k1 k2;rintro e1 w4 ⟨rfl,S⟩;replace S:=S.mono (d:=2) (by omega);go_wp2_with fail
   go_loopg [17] (T.length-(Tr.thn st e).2) (fun q v wr=> ∃y:Tr.St,(Tr.thn st e).2<=y.2/\T.length-y.2<=q/\aC (Tr.dK s T b e (T.length+1) y=st2)/\qU w K g gt hl kl pl s T b n i 2 y wr)
   case atStart=>exact⟨_,aBT _,aBT _,kC,S⟩
   case round=>
    clear S kC;obtain⟨y,hy1,hq,Hy,S⟩:=hrel;obtain⟨k0,k1,k2⟩:=HB.o _ S.A;have his:=vM X S [44];have Ee:=S.ok.2.1;have hna:=E.SS;have rZ:aC (Tr.aW s T [[44]] y.2=true->Tr.dK s T b e (T.length+1) (Tr.fC s T b e y)=st2/\y.2<(Tr.fC s T b e y).2/\Tr.nD T i 2 (Tr.fC s T b e y)):=fun h=>by have h1:=Tr.nN s T b hna y Ee (Tr.is_lt s T h);refine⟨by rw[<-Tr.yM s T b hna y Ee h];exact Hy.o,h1.1,by have:=S.ok.1;omega,h1.2.1,by have:=S.ok.2.2;have:=S.ok.1;omega⟩
    have kC:aC (Tr.aW s T [[44]] y.2=false->y=st2):=fun h=>by rw[<-Tr.yL s T b e y h];exact Hy.o
    clear S;generalize Tr.aW s T [[44]] y.2=vc at *
    go_wp2_with fail;refine his.mono ?_;clear his k0 k1 k2;rintro e1 w5 ⟨rfl,S⟩;cases vc with
    |true=>
     obtain⟨hg1,hg2,hg3⟩:=rZ.o rfl;have Yj:=aB hg1;clear rZ kC Hy hg1 hna;obtain⟨k0,k1,k2⟩:=HB.o _ S.A;have htk:=iO X S (by omega);clear S;go_wp2_with fail;refine htk.mono ?_;clear htk k0 k1 k2;rintro e1 w6 ⟨rfl,S⟩;obtain⟨k0,k1,k2⟩:=HB.o _ S.A;have hnm:=pX X E S (by omega);clear S;go_wp2_with fail;refine hnm.mono ?_;clear hnm k0 k1 k2;rintro e1 w7 ⟨rfl,S⟩;have hS:qU w K g gt hl kl pl s T b n i 2 (Tr.fC s T b e y) w7:=⟨S.A,S.R,S.B,hg3⟩;clear S;go_wp2_with fail
     go_roundg (T.length-(Tr.fC s T b e y).2)
     case rel=>exact⟨_,by omega,aBT _,Yj,hS⟩
     case measure=>have:=hg3.2.1;omega
    |false=>have hst:=kC.o rfl;clear rZ kC Hy hna;subst hst;go_wp2_with fail;go_meet;exact S
 case rest=>clear HT HF S;have S:=hcut;clear hcut;obtain⟨k0,k1,k2⟩:=HB.o _ S.A;have hwt:=kD X S shut (by omega);rw[<-J2.o] at hwt;clear S;go_wp2_with fail;refine hwt.mono ?_;clear hwt k0 k1 k2;rintro e1 w5 ⟨rfl,S⟩;go_wp2_with fail;go_end0;exact⟨rfl,S.A,S.R,S.B⟩
theorem Br.boxed {kind at_:Nat}(hb:Br w K h kind at_ pts)(o:Obj):Br (w.alloc o) (fun x=>K x\/x=w.heap.size) h kind at_ pts:=by
 obtain⟨A,c,vs,hb⟩:=hb;have hd:=nR w o;have h1:=hb.blk.lt;have h2:=hb.kF;have hb':=hb.below hd;refine⟨A,c,vs,fun e=>e.elim hb.nk (fun e=>by omega),hb'.blk,hb'.own,fun q hq e=>e.elim (hb.nr q hq) (fun e=>by have:=h2 q hq;omega),?_⟩;exact eF.keep hd.size (fun x hF hl=>⟨hd.block x hl,fun e=>e.elim hF.1 (fun e=>by omega),hF.2.1,hF.2.2⟩) _ _ hb.parts
theorem jB.boxed {s:Bs}{T:List Tk}(R:jB w K g gt s T b n i)(o:Obj):jB (w.alloc o) (fun x=>K x\/x=w.heap.size) g gt s T b n i:=by
 have hd:=nR w o;have R':=R.below hd;exact⟨R'.rs.mono fun x hx=>.inl hx,fun x hx=>hx.elim (fun hx=>R'.dL x hx) (fun e=>by rw[e];simp),R.hi,R.hb⟩
theorem RG{s:Bs}{T:List Tk}{kind at_:Nat}{e:Nat->Tr.St}(X:iN s T)(E:Cj g gt s T b (n+1) e)(R:jB w K g gt s T b n i)(hb:Br w K h kind at_ pts)(hl0:pts.length<=40000000)(hn:n<=1000)(kl:Nat)(shut:Bs):
  Calls aBS 277 #[pZZ g,pZZ h,vZZ kl,.string ⟨shut.toArray⟩] w (I6 w K g gt h kind at_ s T b n (Tr.thn (pts,i) fun i=>Tr.aS (Tr.eH s T b e kl shut i))):=by
 obtain⟨i0,ji,iW,jz1,iV⟩:=info_parts qF;obtain⟨A,c,vs,hb⟩:=hb;have h0:=hb.blk.lt;have hr:=hb.kF;have vQ:=R.dL;have hgl:=R.rs.rd.lt;obtain⟨r,hr0⟩:=dC ((Tr.thn (if Tr.aW s T [shut] (Tr.aK s T b i).2 then Tr.aK s T b i else Tr.dK s T b e (T.length+1) (Tr.thn (Tr.aK s T b i) e)) (Tr.aN s T b shut)));have HP:aC ((Tr.thn (pts,i) fun i=>Tr.aS (Tr.eH s T b e kl shut i))=(pts++[.branch kl (Tr.bC s T b i) r.1],r.2)):=by rw[hr0];rfl
 rw[HP.o];clear HP;have Hr0:=aB hr0;clear hr0;have hd1:Below w.heap.size w ((w.alloc (.cells #[pZZ g] 203)).alloc (.cells #[.string ⟨shut.toArray⟩] 9)):=((aBU _ _).alloc (aBT _) _).alloc (by simp) _;have hq1:aV ((w.alloc (.cells #[pZZ g] 203)).alloc (.cells #[.string ⟨shut.toArray⟩] 9)) w.heap.size 203 #[pZZ g]:=(aV.new _ _ _).alloc _;have hq2:aV ((w.alloc (.cells #[pZZ g] 203)).alloc (.cells #[.string ⟨shut.toArray⟩] 9)) (w.heap.size+1) 9 #[.string ⟨shut.toArray⟩]:=by have h:=aV.new (w.alloc (.cells #[pZZ g] 203)) 9 #[.string ⟨shut.toArray⟩];simpa using h
 obtain⟨qr,Jt⟩:=dC w.heap.size;obtain⟨qe,hqe⟩:=dC (w.heap.size+1);rw[<-Jt] at hq1;rw[<-hqe] at hq2;have hgr:qr≠g/\qe≠g:=⟨by omega,by omega⟩
 go_enter func277,ntmps277
 go_upto_region 1 with fail;rw[<-hqe,<-Jt];clear hqe Jt;generalize((w.alloc _).alloc _)=w1 at *;have R1:=R.below hd1;have hbr:=lX X R1 kl;have k0:=hq1.cell 0;simp at k0;obtain⟨hl,xI⟩:=dC w1.heap.size;rw[<-xI] at hbr;have hl1:=hq1.lt;have hl2:=hq2.lt;have HN:aC (hl=w1.heap.size):=xI;clear xI;generalize Tr.bC s T b i=pl at *;go_wp2_with fail;refine hbr.mono ?_;clear hbr;rintro e1 w2 ⟨rfl,hz2,hd2,S⟩;rw[HN.o] at hd2 hz2;have Mt:=aB hz2;clear hz2;have hq1:=hq1.below hd2 hl1;have hq2:=hq2.below hd2 hl2;have hd3:=nR w2 (.cells #[pZZ hl] 114);have hq3:aV (w2.alloc (.cells #[pZZ hl] 114)) w2.heap.size 114 #[pZZ hl]:=aV.new _ _ _;have hq1:=hq1.below hd3 hq1.lt;have hq2:=hq2.below hd3 hq2.lt;have R3:=S.R.boxed (.cells #[pZZ hl] 114);have B3:=S.B.boxed (.cells #[pZZ hl] 114);have qH:Below w1.heap.size w1 (w2.alloc (.cells #[pZZ hl] 114)):=hd2.trans (hd3.mono hd2.size);have hok:=S.ok;clear S hd2 hd3 k0;obtain⟨ql,OL⟩:=dC w2.heap.size;rw[<-OL] at R3 B3 hq3;have hqg:ql≠g:=by have:=hd1.size;have:=Mt.o;omega
 go_upto_region 2 with fail;rw[<-OL];clear OL;generalize(w2.alloc _)=w3 at *;have k0:=hq1.cell 0;simp at k0;have Gf:aC (∀w0,fG (Old w3) g w3 w0->∀w',fG (fun x=>Old w1 x\/x=ql) g w0 w'->w'.cell? ⟨qr,0,none⟩=some (pZZ g)/\w'.cell? ⟨ql,0,none⟩=some (pZZ hl)/\w'.cell? ⟨qe,0,none⟩=some (.string ⟨shut.toArray⟩)):=fun w0 ha w' ha'=>⟨lM (hq1.cZ ha hq1.lt hgr.1) ha' (.inl hl1) hgr.1,lM (hq3.cZ ha hq3.lt hqg) ha' (.inr rfl) hqg,lM (hq2.cZ ha hq2.lt hgr.2) ha' (.inl hl2) hgr.2⟩
 have hdp:=qJ (h:=hl) (kind:=kl) (at_:=pl) R3 hn 286 #[pZZ qr,pZZ ql,pZZ qe] r (fun _ _=>by kernel_rfl) (fun w0 ha R0=>by have S0:qU w0 (fun x=>Old w1 x\/x=ql) g gt hl kl pl s T b (n+1) i 0 ([],i) w0:=⟨fG.refl _ _ _,R0,B3.cZ ha R0.ng,hok⟩;rw[Hr0.o];exact V3 X E S0 shut qr ql qe (Gf.o w0 ha));clear hok B3;go_wp2_with fail;refine hdp.mono ?_;clear hdp k0;intro e1 w4 h4;obtain⟨rfl,nJ,R4,B4⟩:=h4;have o6:fG (Old w) g w w4:=(Kept.cZ (Kept.below hd1 (Old.WK w)) g).trans ((Kept.cZ (Kept.below qH (fun x hx=>aCF hx hd1.size)) g).trans (nJ.mono fun x hx=>.inl (aCF hx hd1.size)));have hb:=hb.cZ o6 R.ng (fun _ hx=>hx);have R:=R.dH R4 (o6.old vQ);have hA:=o6.old vQ;have tH:dE w4 (fun x=> ¬Old w x) (.branch kl pl r.1) (.iface 114 (pZZ hl)):=dE.keep (aBT _) (fun x hF _=>⟨rfl,fun hx=>hF (.inl (aCF hx hd1.size))⟩) _ _ B4.part;have hp:=tH.pushB vQ h0 hr;have hq3:=hq3.cZ nJ (.inr rfl) hqg;clear o6 nJ R4 B4 tH h0 hr hq1 hq2 Gf R3 R1 hd1 qH hgr Hr0 hl1 hl2 Mt HN E;generalize Tr.PT.branch kl pl r.1=pb at *;generalize r.2=ib at *;go_upto_region 3 with fail;refine aL 11 (fun w':World=>w'.cell? ⟨h,1,none⟩=some (.slice A pts.length c)/\w'.cell? ⟨ql,0,none⟩=some (pZZ hl)) ?_;have hd:Below w4.heap.size w4 w4.drew:=(aBU _ _).drew;have hA:=hA.trans (Kept.cZ (Kept.below hd R.dL) g);have R:=R.drew;have hb:=hb.below hd;have hp:=dE.keep hd.size (fun x hF hl=>⟨hd.block x hl,hF⟩) _ _ hp;have hq3:=hq3.drew;clear hd;generalize w4.drew=w5 at *;have o1:=hb.blk.cell 1;have k0:=hq3.cell 0;simp at o1 k0;have hS0:(fun w':World=>w'.cell? ⟨h,1,none⟩=some (.slice A pts.length c)/\w'.cell? ⟨ql,0,none⟩=some (pZZ hl)) w5:=⟨o1,k0⟩
 iterate 7 refine aO 0 hS0 ?_
 clear hS0;refine aA 7 fun C hC=> ?_
 go_simp;refine hC.out _ _ (fun _=>⟨(aJ _ _ _ _ hb.blk.lt).trans o1,(aJ _ _ _ _ hq3.lt).trans k0⟩) ?_;clear hC C;refine aA 8 fun C hC=> ?_
 refine step_append_lies _ (by rfl) _ _ _ (by rfl) 0 122 i0 _ 1 16 underlying119 ji iW jz1 iV rfl (by omega) (.slice A pts.length c) pts.length vs (by rfl) (hb.own.alloc (.cells #[.iface 114 (pZZ hl)] 122)) ⟨w5.heap.size,0,none⟩ 1 1 [.iface 114 (pZZ hl)] (by rfl) (by rfl) (aCK (heap_alloc_new w5 _)) (by simp[aCA]) (by omega) (by unfold maxLen;omega) (by omega) (aBZ _) (w5.heap.size+1) (by simp) ?_;intro gg cap' w5 hown5 hgrow hat lD;have kX:=hb.push R.dL hp hown5 hgrow hat;have hg5:=(hb.blk.alloc (.cells #[.iface 114 (pZZ hl)] 122)).grown hgrow hb.jP;have b1:=hg5.cell 1;have bf:=hg5.frozen 1;simp at b1;have hx5:=(hq3.alloc (.cells #[.iface 114 (pZZ hl)] 122)).grown hgrow (own_ne hb.own hq3 (by decide));have e0:=hx5.cell 0;simp at e0;refine hC.out _ _ (fun _=>⟨b1,e0⟩) ?_;clear hC C;refine aA 9 fun C hC=> ?_
 go_simp;refine hC.out _ _ (fun _=>⟨b1,e0⟩) ?_;clear hC C;refine aA 10 fun C hC=> ?_
 go_simp;refine hC.out _ _ (fun _=>⟨b1,e0⟩) ?_;clear hC C;refine aA 11 fun C hC=> ?_
 go_simp;refine hC.out _ _ (fun h=>absurd rfl h) ?_;clear hC C;refine aR ?_;have hB:=kX.1;have R:=R.kept kX.2;have hA:=hA.trans (kX.2.cZ g);clear hb hp o1 hown5 hgrow hat lD kX hg5 b1 bf;go_end0;exact⟨rfl,hA,R,hB⟩
open Go.RowKit Go.Maps
theorem nS{H:Type}{P:Program}(w:World){ops:Array Oper}{rest:List Oper}{o:Oper}{a:Act}{Q:Exit->Act->World->Prop}
  (hg:o.guard=none) (m x v:Operand) (t:TypeId) (hop:o.op=Op.insert t m x v)
  (k e:TypeId) (K:Keyed P k) (ht:P.underlying t=some (.map k e)) (R:Value->Option (DataW H×List MemPlace)) (b n:Nat) (D:DataW H)
  (hm:a.eval m=.map (some b)) (hown:w.ownsMap P k R b n D) (hn:n<maxLen) (key val:Value) (kl:Lit) (hx:a.eval x=key) (hv:a.eval v=val) (hkey:keyOf P k key=some kl)
  (d:DataW H) (ps:List MemPlace) (hval:R val=some (d,ps))
  (hK: ∀w',w'.ownsMap P k R b (n+1) (D.put kl d)->w.grownBy w' (some b)->wpList P ops Q rest (a.put o.dst undef) w'):
  wpList P ops Q (o::rest) a w:=by
 refine wpList_plain hg fun K' hK'=> ?_
 obtain⟨w',hrun,r1,r2⟩:=hown.update K ht hn hkey hval;unfold Oper.wp;simp[execOp,hop,hm,hx,hv,hrun,Result.andThen];exact hK' _ _ (hK w' r1 r2)
theorem intKeys:Keyed aBS 3:=int_keyed underlying3
theorem Yl(w:World):(zeroValue 3).run aBS w=.ok (kZZ 0) w:=by kernel_rfl
def Ra(k:Nat):Nat:=if k=5 then 15 else if k=6 then 16 else if k=3 then 18 else 0
theorem nine{k:Nat}(h:k<=8):k=0\/k=1\/k=2\/k=3\/k=4\/k=5\/k=6\/k=7\/k=8:=by omega
theorem wfk(k:Nat)(h:k<=8):(Lit.int .i64 (k:Int)).wf=true:=by
 rcases nine h with rfl|rfl|rfl|rfl|rfl|rfl|rfl|rfl|rfl<;>decide
theorem Rj(k:Nat)(h:k<=8):((((DataW.map (H:=Unit) []).put (.int .i64 5) (.lit (.int .i64 15))).put (.int .i64 6) (.lit (.int .i64 16))).put (.int .i64 3) (.lit (.int .i64 18))).atKey (.int .i64 (k:Int)) (.lit (.int .i64 0))=.lit (.int .i64 (Ra k:Int)):=by
 rcases nine h with rfl|rfl|rfl|rfl|rfl|rfl|rfl|rfl|rfl<;>rfl
theorem Br.first {kind at_:Nat}{p:Tr.PT}(hb:Br w K h kind at_ [p]): ∃q cap v,w.cell? ⟨h,1,none⟩=some (.slice (some ⟨q,0,none⟩) 1 cap)/\w.cell? ⟨q,0,none⟩=some v/\dE w (fun x=> ¬K x) p v:=by
 obtain⟨A,c,vs,hb⟩:=hb;have c1:=hb.blk.cell 1;obtain⟨v,vs',rfl,hp,hl⟩:=hb.parts;rcases hb.own.2 with ⟨e,e2⟩|⟨q,cap,cur,e,_,hq,hle,_,hz,hx⟩
 ·simp at e2
 ·injection e with e1 e2 e3;subst e1 e3;exact⟨q,c,v,by simpa using c1,CK hb.own 0 v rfl,dE.keep (aBT _) (fun b hF _=>⟨rfl,hF.1⟩) _ _ hp⟩
theorem U0{hl kl pl:Nat}{s:Bs}{T:List Tk}{e:Nat->Tr.St}(X:iN s T)(E:Cj g gt s T b n e)(S:qU w K g gt hl kl pl s T b n i 0 ([],i) w)(qr ql:Nat)
  (HB:aC (∀w',fG K g w w'->w'.cell? ⟨qr,0,none⟩=some (pZZ g)/\w'.cell? ⟨ql,0,none⟩=some (pZZ hl))):
  Calls aBS 285 #[pZZ qr,pZZ ql] w (I6 w K g gt hl kl pl s T b n (Tr.thn (Tr.thn (Tr.aK s T b i) e) (Tr.aN s T b [41]))):=by
 obtain⟨k0,k1⟩:=HB.o _ S.A;have htk:=iO X S (by omega);rw[sO] at htk;clear S
 go_enter func285,ntmps285
 go_wp2_with fail;refine htk.mono ?_;clear htk k0 k1;rintro e1 w2 ⟨rfl,S⟩;obtain⟨k0,k1⟩:=HB.o _ S.A;have hex:=pX X E S (by omega);clear S;go_wp2_with fail;refine hex.mono ?_;clear hex k0 k1;rintro e1 w3 ⟨rfl,S⟩;obtain⟨k0,k1⟩:=HB.o _ S.A;have hwt:=kD X S [41] (by omega);clear S;go_wp2_with fail;refine hwt.mono ?_;clear hwt k0 k1;rintro e1 w4 ⟨rfl,S⟩;go_wp2_with fail;go_end0;exact⟨rfl,S.A,S.R,S.B⟩
theorem ag{s:Bs}{T:List Tk}(X:iN s T)(k:Nat):Tr.bR T k<=8:=by
 by_cases h:k<T.length
 ·rw[Tr.tC T k h];exact(X.good.at_ h).2.2
 ·rw[Tr.mX T k (by omega)];omega
theorem Ja{s:Bs}{T:List Tk}{e:Nat->Tr.St}(X:iN s T)(E:Cj g gt s T b (n+1) e)(R:jB w K g gt s T b n i)(hn:n<=1000):
  Calls aBS 276 #[pZZ g] w (I7 w K g gt s T b n (Tr.fD s T b e i)):=by
 have hT:=X.hT;have hgl:=R.rs.rd.lt;have hnl:=Tr.JJ T i R.hi;have hkl:=ag X (Tr.aH T i);generalize hr:Tr.fD s T b e i=r;have Ch:aC (0<Tr.eT (Tr.bR T (Tr.aH T i)) (Tr.gX s T (Tr.aH T i))->r=(.branch (Tr.eT (Tr.bR T (Tr.aH T i)) (Tr.gX s T (Tr.aH T i))) (Tr.bC s T b i) (Tr.aK s T b i).1,(Tr.aK s T b i).2)):=fun h=>by rw[<-hr];unfold Tr.fD;rw[if_pos h];rfl
 have L6:aC (¬0<Tr.eT (Tr.bR T (Tr.aH T i)) (Tr.gX s T (Tr.aH T i))->Tr.aW s T [[40]] i=true->r=(.branch 14 (Tr.bC s T b i) (Tr.thn (Tr.thn (Tr.aK s T b i) e) (Tr.aN s T b [41])).1,(Tr.thn (Tr.thn (Tr.aK s T b i) e) (Tr.aN s T b [41])).2)):=fun h h2=>by rw[<-hr];unfold Tr.fD;rw[if_neg h,if_pos h2];rfl
 have Cg:aC (¬0<Tr.eT (Tr.bR T (Tr.aH T i)) (Tr.gX s T (Tr.aH T i))->Tr.aW s T [[40]] i=false->Tr.aW s T [[91]] i=true->r=Tr.eH s T b e 13 [93] i):=fun h h2 h3=>by rw[<-hr];unfold Tr.fD;rw[if_neg h,if_neg (by rw[h2];simp),if_pos h3]
 have HP4:aC (¬0<Tr.eT (Tr.bR T (Tr.aH T i)) (Tr.gX s T (Tr.aH T i))->Tr.aW s T [[40]] i=false->Tr.aW s T [[91]] i=false->r=(.gap Tr.jN (Tr.bC s T b i) false,i)):=fun h h2 h3=>by rw[<-hr];unfold Tr.fD;rw[if_neg h,if_neg (by rw[h2];simp),if_neg (by rw[h3];simp)]
 clear hr;have hd1:=nR w (.cells #[pZZ g] 203);have hq:aV (w.alloc (.cells #[pZZ g] 203)) w.heap.size 203 #[pZZ g]:=aV.new _ _ _;have R1:=(R.below hd1).old;obtain⟨q,hqe⟩:=dC w.heap.size;rw[<-hqe] at hq;have hqg:q≠g:=by omega
 go_enter func276,ntmps276
 go_upto_region 1 with fail;rw[<-hqe];clear hqe;generalize(w.alloc _)=w1 at *;refine aL 8 (fun w':World=>w'.cell? ⟨q,0,none⟩=some (pZZ g)) ?_;have hq2:=hq.drew;have R2:jB w1.drew (Old w1) g gt s T b n i:=R1.drew;have h1:=pF R2.rs R2.hi (by omega);have h2:=zW (Tr.aH T i) R2.rs X.good (by have:=X.hs;omega) (by omega);generalize Tr.bR T (Tr.aH T i)=kd at *;generalize Tr.gX s T (Tr.aH T i)=tx at *;generalize Tr.aH T i=nx at *;have hd2:Below w1.heap.size w1 w1.drew:=(aBU _ _).drew;generalize w1.drew=w2 at *;have k0:=hq2.cell 0;simp at k0;have hS0:(fun w':World=>w'.cell? ⟨q,0,none⟩=some (pZZ g)) w2:=k0
 iterate 2 refine aO 0 hS0 ?_
 clear hS0;refine aA 2 fun C hC=> ?_
 go_simp
 ((with_reducible refine h1.mono ?_))
 clear h1;rintro e1 w3 ⟨rfl,rfl⟩;refine hC.out _ _ (fun _=>k0) ?_;clear hC C;refine aA 3 fun C hC=> ?_
 go_simp
 ((with_reducible refine h2.mono ?_))
 clear h2;rintro e1 w4 ⟨rfl,hd3⟩;have hq4:=hq2.below hd3 hq2.lt;have R4:=R2.below hd3;have DC:Below w1.heap.size w1 w4:=hd2.trans (hd3.mono hd2.size);have k0:=hq4.cell 0;simp at k0;refine hC.out _ _ (fun _=>k0) ?_;clear hC C hq hq2 R1 R2 hd2 hd3;refine aA 4 fun C hC=> ?_
 go_simp;refine hC.out _ _ (fun _=>k0) ?_;clear hC C;have hS0:(fun w':World=>w'.cell? ⟨q,0,none⟩=some (pZZ g)) w4:=k0
 iterate 2 refine aO 5 hS0 ?_
 clear hS0;refine aA 7 fun C hC=> ?_
 go_simp;refine hC.out _ _ (fun _=>k0) ?_;clear hC C;refine aA 8 fun C hC=> ?_
 go_simp;refine hC.out _ _ (fun h=>absurd rfl h) ?_;clear hC C;refine aR ?_;go_upto_region 2 with fail
 go_cut [5] (fun v wc=>v=kZZ (Ra kd:Int)/\Below w4.heap.size w4 wc)
 case first=>
  have h00:=World.ownsMap_made (H:=Unit) w4 aBS 3 (plainElem aBS 3);have hmm:= @run_makeMap aBS;go_wp2_with (first|(refine nS (H:=Unit) _ rfl _ _ _ 398 rfl 3 3 intKeys underlying398 _ w4.heap.size 0 _ rfl h00 (by unfold maxLen;omega) _ _ _ rfl rfl (keyOf_int_mk underlying3 (by decide)) _ [] (plainElem_int underlying3 (by decide)) ?_;intro wa hwa gwa)|(refine nS (H:=Unit) _ rfl _ _ _ 398 rfl 3 3 intKeys underlying398 _ w4.heap.size 1 _ rfl hwa (by unfold maxLen;omega) _ _ _ rfl rfl (keyOf_int_mk underlying3 (by decide)) _ [] (plainElem_int underlying3 (by decide)) ?_;intro wb hwb gwb)|(refine nS (H:=Unit) _ rfl _ _ _ 398 rfl 3 3 intKeys underlying398 _ w4.heap.size 2 _ rfl hwb (by unfold maxLen;omega) _ _ _ rfl rfl (keyOf_int_mk underlying3 (by decide)) _ [] (plainElem_int underlying3 (by decide)) ?_;intro wd hwd gwd)|(refine wpList_lookup_own_int (H:=Unit) _ rfl _ _ 398 rfl 3 3 .i64 intKeys underlying398 underlying3 (Yl _) w4.heap.size 3 _ rfl hwd _ _ rfl (keyOf_int_mk underlying3 (wfk kd hkl)) ?_;intro c hat hwc));go_meet;have hc2:DataW.lit (H:=Unit) (.int .i64 c)=.lit (.int .i64 (Ra kd:Int)):=hat.symm.trans (Rj kd hkl);injection hc2 with hc2;injection hc2 with _ hc2;refine⟨by rw[hc2],?_⟩;have z0:=nR w4 (.map #[] 0);have z1:=z0.grown gwa z0.size (fun j hj=>by cases hj;exact aBT _);have z2:=z1.grown gwb z1.size (fun j hj=>by cases hj;exact aBT _);exact z2.grown gwd z2.size (fun j hj=>by cases hj;exact aBT _)
 case rest=>
  obtain⟨rfl,hd⟩:=hcut;clear hkl;go_upto_block 0 with fail
  go_cut [5] (fun v wd=>v=kZZ (Tr.eT kd tx:Int)/\wd=wc)
  case first=>
   have HL:aC (Tr.eT kd tx=(if kd=4/\(tx=Tr.wC\/tx=Tr.qN)then 17 else if kd=7/\tx=[63] then 19 else if kd=5 then 15 else if kd=6 then 16 else if kd=3 then 18 else 0)):=rfl;have HM:aC (Ra kd=(if kd=5 then 15 else if kd=6 then 16 else if kd=3 then 18 else 0)):=rfl;generalize Tr.eT kd tx=L at *;generalize Ra kd=M at *;clear hd hd1 R R4 X E Ch L6 Cg HP4
   by_cases h4:kd=4
   ·subst h4
    by_cases ht:tx=Tr.wC
    ·have HV:aC (L=17):=(by show _=_;rw[HL.o,if_pos ⟨rfl,.inl ht⟩]);subst ht;clear HL HM;unfold Tr.wC;go_wp2_with fail;go_meet;exact⟨by rw[HV.o];rfl,rfl⟩
    ·by_cases hf:tx=Tr.qN
     ·have HV:aC (L=17):=(by show _=_;rw[HL.o,if_pos ⟨rfl,.inr hf⟩]);subst hf;clear HL HM ht;unfold Tr.qN;go_wp2_with fail;go_meet;exact⟨by rw[HV.o];rfl,rfl⟩
     ·have HV:aC (L=M):=(by show _=_;rw[HL.o,HM.o,if_neg (fun h=>h.2.elim ht hf),if_neg (fun h=>by omega)]);have d3: ¬tx=[116,114,117,101]:=ht;have d4: ¬tx=[102,97,108,115,101]:=hf;have d1:(tx== [116,114,117,101])=false:=beq_eq_false_iff_ne.2 d3;have d2:(tx== [102,97,108,115,101])=false:=beq_eq_false_iff_ne.2 d4;clear HL HM ht hf;go_wp2_with fail;go_meet;exact⟨by rw[HV.o],rfl⟩
   ·have e4:((kd:Int)==4)=false:=by simp;omega
    by_cases h7:kd=7
    ·subst h7;clear h4 e4
     by_cases ht:tx=[63]
     ·have HV:aC (L=19):=(by show _=_;rw[HL.o,if_neg (fun h=>by omega),if_pos ⟨rfl,ht⟩]);subst ht;clear HL HM;go_wp2_with fail;go_meet;exact⟨by rw[HV.o];rfl,rfl⟩
     ·have HV:aC (L=M):=(by show _=_;rw[HL.o,HM.o,if_neg (fun h=>by omega),if_neg (fun h=>ht h.2)]);have d1:(tx== [63])=false:=(by simpa using ht);clear HL HM;go_wp2_with fail;go_meet;exact⟨by rw[HV.o],rfl⟩
    ·have e7:((kd:Int)==7)=false:=(by simp;omega);have HV:aC (L=M):=(by show _=_;rw[HL.o,HM.o,if_neg (fun h=>h4 h.1),if_neg (fun h=>h7 h.1)]);clear HL HM h4 h7;go_wp2_with fail;go_meet;exact⟨by rw[HV.o],rfl⟩
  case rest=>
   obtain⟨rfl,rfl⟩:=hcut;have hdw:Below w.heap.size w wc:=hd1.trans ((DC.trans (hd.mono DC.size)).mono hd1.size);have hqc:=hq4.below hd hq4.lt;clear hd DC hd1 R4 hq4;have hdn:=nR wc (.cells #[kZZ 0,nZZ,kZZ 0] 178);have Sj:=hqc.below hdn hqc.lt;have hdb:=hdw.trans (hdn.mono hdw.size);have hBb: ∀K,In K wc->Br (wc.alloc (.cells #[kZZ 0,nZZ,kZZ 0] 178)) K wc.heap.size 0 0 []:=fun K hK=>Br.new hK 0 0
   have hIn:In K wc:=R.dL.after hdw.size;obtain⟨bb,hbb⟩:=dC wc.heap.size;rw[<-hbb] at hBb;have hBk:=hBb K hIn;go_upto_region 9 with fail;rw[<-hbb];clear hbb hdn hqc hBb hdw;generalize wc.alloc _=wd at *;have R5:=R.below hdb;have k0:=Sj.cell 0;simp at k0
   by_cases hL:0<Tr.eT kd tx
   ·have HP:=aB (Ch.o hL);clear Ch L6 Cg HP4 hBk E;generalize Tr.eT kd tx=L at *;have i1:(0:Int)<(L:Int):=(by omega);have hbr:=lX X R5 L;obtain⟨hl,xI⟩:=dC wd.heap.size;rw[<-xI] at hbr;have HN:aC (hl=wd.heap.size):=xI;clear xI;go_wp2_with fail;refine hbr.mono ?_;clear hbr;rintro e1 we ⟨rfl, -,hdz,S⟩;rw[HN.o] at hdz;have hqe:=Sj.below hdz Sj.lt;have k0:=hqe.cell 0;simp at k0;have htk:=iO X S (by omega);rw[sO] at htk;clear S;go_wp2_with fail;refine htk.mono ?_;clear htk;rintro e1 wf ⟨rfl,S⟩;rw[HN.o] at S;have hp:=S.B.part;have hA:=(Kept.cZ (Kept.below hdb R.dL) g).trans (S.A.old R5.dL);have hp2:=hp.dH R5.dL;have hR:=R.dH S.R hA;clear S hp k0;go_wp2_with fail;go_ret;rw[HP.o];exact⟨_,rfl,hA,hR,by rw[HN.o];exact hp2⟩
   ·have aBc:=aB (L6.o hL);have aBb:=aB (Cg.o hL);have aBa:=aB (HP4.o hL);clear Ch L6 Cg HP4;generalize Tr.eT kd tx=L at *;have i1: ¬(0:Int)<(L:Int):=(by omega);have his:Calls aBS 150 #[pZZ g,.slice (some ⟨wd.heap.size,0,none⟩) 1 1] (wd.alloc (.cells #[.string ⟨#[40]⟩] 9)) fun e w'=>e=.returned (.bool (Tr.aW s T [[40]] i))/\Below wd.heap.size wd w':=rT X R5 [[40]] (by simp) 1
    generalize Tr.aW s T [[40]] i=vb at *
    go_wp2_with fail;refine his.mono ?_;clear his k0;rintro e1 we ⟨rfl,hdz⟩;have R6:=R5.below hdz;have K6:=hBk.below hdz;have hqe:=Sj.below hdz Sj.lt;have Y4:=hdb.trans (hdz.mono hdb.size);clear R5 hBk Sj hdb hdz;have k0:=hqe.cell 0;simp at k0;cases vb with
    |true=>
     have HP:=aB (aBc.o rfl);clear aBc aBb aBa K6;have hbr:=lX X R6 14;obtain⟨hl,xI⟩:=dC we.heap.size;rw[<-xI] at hbr;have HN:aC (hl=we.heap.size):=xI;clear xI;go_wp2_with fail;refine hbr.mono ?_;clear hbr;rintro e1 w2 ⟨rfl,hz2,hd2,S⟩;rw[HN.o] at hd2 hz2;have Mt:=aB hz2;clear hz2 k0;have hq1:=hqe.below hd2 hqe.lt;have hd3:=nR w2 (.cells #[pZZ hl] 114);have hq3:aV (w2.alloc (.cells #[pZZ hl] 114)) w2.heap.size 114 #[pZZ hl]:=aV.new _ _ _;have hq1:=hq1.below hd3 hq1.lt;have R3:=S.R.boxed (.cells #[pZZ hl] 114);have B3:=S.B.boxed (.cells #[pZZ hl] 114);have qH:Below we.heap.size we (w2.alloc (.cells #[pZZ hl] 114)):=hd2.trans (hd3.mono hd2.size);have hok:=S.ok;have hql1:=hqe.lt;have Jy:=R6.rs.rd.lt;clear S hd2 hd3;obtain⟨ql,OL⟩:=dC w2.heap.size;rw[<-OL] at R3 B3 hq3;have BB:ql≠g:=(by have:=Mt.o;omega);go_upto_region 15 with fail;rw[<-OL];clear OL;generalize(w2.alloc _)=w3 at *;have k0:=hq1.cell 0;simp at k0;have Gf:aC (∀w0,fG (Old w3) g w3 w0->∀w',fG (fun x=>Old we x\/x=ql) g w0 w'->w'.cell? ⟨q,0,none⟩=some (pZZ g)/\w'.cell? ⟨ql,0,none⟩=some (pZZ hl)):=fun w0 ha w' ha'=>⟨lM (hq1.cZ ha hq1.lt hqg) ha' (.inl hql1) hqg,lM (hq3.cZ ha hq3.lt BB) ha' (.inr rfl) BB⟩
     generalize Tr.bC s T b i=pl at *;have hdp:=qJ (h:=hl) (kind:=14) (at_:=pl) R3 hn 285 #[pZZ q,pZZ ql] (Tr.thn (Tr.thn (Tr.aK s T b i) e) (Tr.aN s T b [41])) (fun _ _=>by kernel_rfl) (fun w0 ha R0=>U0 X E ⟨fG.refl _ _ _,R0,B3.cZ ha R0.ng,hok⟩ q ql (Gf.o w0 ha));clear hok B3;go_wp2_with fail;refine hdp.mono ?_;clear hdp k0;intro e1 w4 h4;obtain⟨rfl,nJ,R4,B4⟩:=h4;have o6:fG (Old w) g w w4:=(Kept.cZ (Kept.below Y4 (Old.WK w)) g).trans ((Kept.cZ (Kept.below qH (fun x hx=>aCF hx Y4.size)) g).trans (nJ.mono fun x hx=>.inl (aCF hx Y4.size)));have hR:=R.dH R4 (o6.old R.dL);have hA:=o6.old R.dL;have tH:=dE.keep (F':=fun x=> ¬K x) (aBT _) (fun x hF _=>⟨rfl,fun hx=>hF (.inl (aCF (R.dL x hx) Y4.size))⟩) _ _ B4.part;have hq3:=hq3.cZ nJ (.inr rfl) BB;have k1:=hq3.cell 0;simp at k1;clear o6 nJ R4 B4 hq1 Gf R3 qH hq3 E;go_wp2_with fail;go_ret;rw[HP.o];exact⟨_,rfl,hA,hR,tH⟩
    |false=>
     have hL2:=aB (aBb.o rfl);have hL3:=aB (aBa.o rfl);clear aBc aBb aBa;have his:Calls aBS 150 #[pZZ g,.slice (some ⟨we.heap.size,0,none⟩) 1 1] (we.alloc (.cells #[.string ⟨#[91]⟩] 9)) fun e w'=>e=.returned (.bool (Tr.aW s T [[91]] i))/\Below we.heap.size we w':=rT X R6 [[91]] (by simp) 1
     generalize Tr.aW s T [[91]] i=vc at *
     go_wp2_with fail;refine his.mono ?_;clear his k0;rintro e1 wf ⟨rfl,hdz⟩;have R7:=R6.below hdz;have VD:=K6.below hdz;have hqf:=hqe.below hdz hqe.lt;have hdb7:=Y4.trans (hdz.mono Y4.size);clear R6 K6 hqe Y4 hdz;have k0:=hqf.cell 0;simp at k0;have hA7:=Kept.cZ (Kept.below hdb7 R.dL) g;cases vc with
     |true=>
      have HP:=aB (hL2.out rfl);clear hL2 hL3;have hls:=RG X E R7 VD (by simp) hn 13 [93];go_wp2_with fail;refine hls.mono ?_;clear hls k0 hqf R7 VD;intro e1 w4 h4;obtain⟨rfl,nJ,R4,B4⟩:=h4;rw[show(Tr.thn ([],i) fun i=>Tr.aS (Tr.eH s T b e 13 [93] i))=([(Tr.eH s T b e 13 [93] i).1],(Tr.eH s T b e 13 [93] i).2)from rfl] at R4 B4;generalize Tr.eH s T b e 13 [93] i=x at *;obtain⟨q2,cap2,v2,y1,y2,hp⟩:=B4.first
      have hA8:=hA7.trans nJ;clear B4 nJ hA7 E;go_wp2_with fail;go_ret;rw[HP.o];exact⟨_,rfl,hA8,R4,hp⟩
     |false=>
      have HP:=aB (hL3.out rfl);clear hL2 hL3;have hls:=vI X R7 VD Tr.jN (by simp);unfold Tr.jN at hls;go_wp2_with fail;refine hls.mono ?_;clear hls k0 hqf R7 VD;intro e1 w4 h4;obtain⟨rfl,nJ,R4,B4⟩:=h4;rw[show(Tr.thn ([],i) (Tr.nU s T b [101,120,112,114,101,115,115,105,111,110]))=([(Tr.PT.gap Tr.jN (Tr.bC s T b i) false)],i)from rfl] at R4 B4;generalize(Tr.PT.gap Tr.jN (Tr.bC s T b i) false)=x at *;obtain⟨q2,cap2,v2,y1,y2,hp⟩:=B4.first
      have hA8:=hA7.trans nJ;clear B4 nJ hA7 E;go_wp2_with fail;go_ret;rw[HP.o];exact⟨_,rfl,hA8,R4,hp⟩
theorem Lv{s:Bs}{T:List Tk}{e:Nat->Tr.St}(X:iN s T)(E:Cj g gt s T b (n+1) e)(R:jB w K g gt s T b n i)(hn:n<=1000)
  (uh:Calls aBS 276 #[pZZ g] w (I7 w K g gt s T b n (Tr.fD s T b e i))):
  Calls aBS 267 #[pZZ g] w (I7 w K g gt s T b n (Tr.oG s T b e i)):=by
 have hT:=X.hT;have Yj:=Tr.FC s T b E.SS i R.hi;generalize hr:Tr.oG s T b e i=r;have Hr:aC (Tr.gJ s T b e (T.length+1) (Tr.fD s T b e i)=r):=hr;clear hr
 go_enter func267,ntmps267
 go_wp2_with fail;refine uh.mono ?_;clear uh;intro e1 w1 h1;obtain⟨v,rfl,hA1,R1,hp⟩:=h1;generalize Tr.fD s T b e i=q1 at *;go_wp2_with fail
 go_loopg [3,4] (T.length-q1.2) (fun q v _ wr=> ∃x:Tr.PT×Nat,q1.2<=x.2/\T.length-x.2<=q/\aC (Tr.gJ s T b e (T.length+1) x=r)/\fG K g w wr/\jB wr K g gt s T b n x.2/\dE wr (fun x=> ¬K x) x.1 v)
 case atStart=>exact⟨q1,aBT _,aBT _,Hr,hA1,R1,hp⟩
 case round=>
  clear hA1 R1 hp Hr;obtain⟨x,hx1,hq,Hx,hA,R,hp⟩:=hrel;have hi:=R.hi;have his:Calls aBS 150 #[pZZ g,.slice (some ⟨wr.heap.size,0,none⟩) 1 1] (wr.alloc (.cells #[.string ⟨#[40]⟩] 9)) fun e w'=>e=.returned (.bool (Tr.aW s T [[40]] x.2))/\Below wr.heap.size wr w':=rT X R [[40]] (by simp) 1
  have jA:aC (Tr.aW s T [[40]] x.2=true->Tr.gJ s T b e (T.length+1) (Tr.mD s T b e x)=r/\x.2<(Tr.mD s T b e x).2):=fun h=>⟨by rw[<-Tr.NM s T b E.SS x R.hi h];exact Hx.o,Tr.JK s T b E.SS 12 [41] x.2 R.hi (Tr.is_lt s T h)⟩
  have fU:aC (Tr.aW s T [[40]] x.2=false->x=r):=fun h=>by rw[<-Tr.NL s T b e x h];exact Hx.o
  generalize Tr.aW s T [[40]] x.2=vb at *
  go_wp2_with fail;refine his.mono ?_;clear his;rintro e1 w2 ⟨rfl,hd⟩;have hA:=hA.trans (Kept.cZ (Kept.below hd R.dL) g);have hp:=dE.keep (F':=fun x=> ¬K x) hd.size (fun y hF hl=>⟨hd.block y hl,hF⟩) _ _ hp;have R:=R.below hd;clear hd;cases vb with
  |true=>
   obtain⟨hst,hgt⟩:=jA.o rfl;have kC:=aB hst;clear jA fU Hx hst;have har:=IP R.dL 11 hp;have A_:aC (Tr.mD s T b e x=(.branch 11 x.1.from_ [x.1,(Tr.eH s T b e 12 [41] x.2).1],(Tr.eH s T b e 12 [41] x.2).2)):=rfl;generalize x.1.from_=fr at *;go_wp2_with fail;refine har.mono ?_;clear har;rintro e1 w3 ⟨h,rfl,hd,hhs,hb⟩;have hA:=hA.trans (Kept.cZ (Kept.below hd R.dL) g);have R:=R.below hd;clear hd hp;have hls:=RG X E R hb (by simp) hn 12 [41];go_wp2_with fail;refine hls.mono ?_;clear hls hb R;intro e1 w4 h4;obtain⟨rfl,nJ,R4,B4⟩:=h4;have nJ:=hA.trans nJ;have tH:=B4.part;have hx:Tr.thn ([x.1],x.2) (fun i=>Tr.aS (Tr.eH s T b e 12 [41] i))=([x.1,(Tr.eH s T b e 12 [41] x.2).1],(Tr.eH s T b e 12 [41] x.2).2):=rfl;rw[hx] at R4 tH;clear hA hx;have R5:jB w4 K g gt s T b n (Tr.mD s T b e x).2:=by rw[A_.out];exact R4
   have Ju:dE w4 (fun x=> ¬K x) (Tr.mD s T b e x).1 (.iface 114 (pZZ h)):=(by rw[A_.out];exact tH);clear R4 tH A_ B4;generalize Tr.mD s T b e x=y at *;go_wp2_with fail
   go_roundg (T.length-y.2)
   case rel=>exact⟨y,by omega,aBT _,kC,nJ,R5,Ju⟩
   case measure=>have h2:y.2<=T.length:=R5.hi;omega
  |false=>have hst:=fU.o rfl;clear jA fU Hx;subst hst;go_wp2_with fail;go_ret;exact⟨_,rfl,hA,R,hp⟩
end Go.Proofs.YtcjjfeephaddcaaGreatDoor
