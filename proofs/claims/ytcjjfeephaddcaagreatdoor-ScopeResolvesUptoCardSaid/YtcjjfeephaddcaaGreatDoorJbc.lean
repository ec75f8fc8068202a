import Derived.Test.YtcjjfeephaddcaaGreatDoorJbb
set_option linter.all false
open Bool renaming or_false->aDK,or_assoc->aFQ
open Go.Proofs.Tryz renaming prog->aBS
open Go.RowKit.Below renaming refl->aBU
open Go.Value renaming oneCell'->aCA,ownBlock->aCZ
open Go.World renaming news_of_block->aCK
open List renaming length_append->aBW,cons_append->aCT,nil_append->aCU,length_singleton->aGE
open Nat renaming le_refl->aBT,zero_le->aBZ,lt_irrefl->aDR
open Option renaming some->aDB
set_option maxHeartbeats 64000000
set_option maxRecDepth 100000
open Go.Proofs.Tryz
namespace Go.Proofs.YtcjjfeephaddcaaGreatDoor
open Go.RowKit
variable{cut:Bool}
theorem rC(s:Bs)(T:List Tk)(b i:Nat):Tr.dQ (Tr.aK s T b i).1=false:=YR s T b i _
theorem Gj(s:Bs)(T:List Tk)(b i:Nat)(x:Bs):Tr.dQ (Tr.aN s T b x i).1=false:=by
 unfold Tr.aN;split
 ·exact rC s T b i
 ·rfl
theorem Jh(s:Bs)(T:List Tk)(b i:Nat):Tr.dQ (Tr.aQ s T b i).1=false:=by
 unfold Tr.aQ;split
 ·exact rC s T b i
 ·rfl
structure oK(w0:World)(K:Nat->Prop)(g h kind:Nat)(s:Bs)(T:List Tk)(Ar:Option Addr)(c0 n i cc:Nat)(c1:Bool)(st:Tr.St)(w:World):Prop where
 A:fG K g w0 w
 R:mO w K g s T Ar c0 n st.2 (c1||Tr.dQ st.1)
 B:Bn w K h kind st.1
 ok:Tr.nD T i cc st
section
variable{w0 w w':World}{K:Nat->Prop}{g h kind:Nat}{s:Bs}{T:List Tk}{Ar:Option Addr}{c0 n i cc d:Nat}{c1:Bool}{st:Tr.St}{f:Nat->Tr.St}{e:Ending}
theorem oK.len (S:oK w0 K g h kind s T Ar c0 n i cc c1 st w)(X:FZ s T)(hc:cc<=1000):st.1.length<=10000000:=by
 have h1:=S.ok.2.2;have h2:=S.ok.2.1;have:=X.hT;omega
theorem oK.step (S:oK w0 K g h kind s T Ar c0 n i cc c1 st w)(hf:Tr.oQ T f d)(he:lu w K g h kind s T Ar c0 n ((c1||Tr.dQ st.1)||Tr.dQ (f st.2).1) (Tr.thn st f) e w'):e=.returned (.tuple #[])/\oK w0 K g h kind s T Ar c0 n i (cc+d) c1 (Tr.thn st f) w':=
 ⟨he.1,S.A.trans he.2.1,by have:=he.2.2.1;rwa [aFQ,<-Tr.yR] at this,he.2.2.2,S.ok.thn hf⟩
theorem oK.calm (S:oK w0 K g h kind s T Ar c0 n i cc c1 st w)(hf:Tr.oQ T f d)(hc:Tr.dQ (f st.2).1=false)(he:lu w K g h kind s T Ar c0 n (c1||Tr.dQ st.1) (Tr.thn st f) e w'):e=.returned (.tuple #[])/\oK w0 K g h kind s T Ar c0 n i (cc+d) c1 (Tr.thn st f) w':=
 S.step hf (by rw[hc,aDK];exact he)
theorem oK.below (S:oK w0 K g h kind s T Ar c0 n i cc c1 st w)(hd:Below w.heap.size w w'):oK w0 K g h kind s T Ar c0 n i cc c1 st w':=
 ⟨S.A.trans (Kept.cZ (Kept.below hd S.R.dL) g),S.R.below hd,S.B.below hd,S.ok⟩
theorem oK.mono (S:oK w0 K g h kind s T Ar c0 n i cc c1 st w)(hd:cc<=d):oK w0 K g h kind s T Ar c0 n i d c1 st w:=⟨S.A,S.R,S.B,S.ok.mono hd⟩
theorem oK.turned (S:oK w0 K g h kind s T Ar c0 n i cc c1 st w)(k:Nat):oK w0 K g h k s T Ar c0 n i cc c1 st (w.setCell ⟨h,0,none⟩ (vZZ k)):=by
 have hk:Kept K w (w.setCell ⟨h,0,none⟩ (vZZ k)):=⟨by simp[World.setCell],fun x hx=>Below.heap_setCell w ⟨h,0,none⟩ _ x fun e=>S.B.nk (by have e2:x=h:=e;rw[<-e2];exact hx),Calm.set w _ _⟩;exact⟨S.A.trans (hk.cZ g),S.R.kept hk,S.B.turned k,S.ok⟩
theorem nH(b:Nat)(X:FZ s T)(S:oK w0 K g h kind s T Ar c0 n i cc c1 st w)(word:Bs)(hc:cc<=1000):
  Calls aBS 132 #[pZZ g,pZZ h,.string ⟨word.toArray⟩] w fun e w'=>e=.returned (.tuple #[])/\oK w0 K g h kind s T Ar c0 n i (cc+1) c1 (Tr.thn st (Tr.aN s T b word)) w':=
 (P6 b X S.R S.B word (by have:=S.len X hc;omega)).mono fun _ _ he=>S.calm (Tr.cK s T b word) (Gj s T b _ word) he
theorem mJ(b:Nat)(X:FZ s T)(S:oK w0 K g h kind s T Ar c0 n i cc c1 st w)(hc:cc<=1000):
  Calls aBS 131 #[pZZ g,pZZ h] w fun e w'=>e=.returned (.tuple #[])/\oK w0 K g h kind s T Ar c0 n i (cc+0) c1 (Tr.thn st (Tr.aK s T b)) w':=
 (oZ b X S.R S.B (by have:=S.len X hc;omega)).mono fun _ _ he=>S.calm (Tr.gD s T b) (rC s T b _) he
theorem AX(b:Nat)(X:FZ s T)(S:oK w0 K g h kind s T Ar c0 n i cc c1 st w)(hc:cc<=1000):
  Calls aBS 133 #[pZZ g,pZZ h] w fun e w'=>e=.returned (.tuple #[])/\oK w0 K g h kind s T Ar c0 n i (cc+1) c1 (Tr.thn st (Tr.aQ s T b)) w':=
 (Q7 b X S.R S.B (by have:=S.len X hc;omega)).mono fun _ _ he=>S.calm (Tr.iM s T b) (Jh s T b _) he
theorem MB(X:FZ s T)(S:oK w0 K g h kind s T Ar c0 n i cc c1 st w)(word:Bs):
  Calls aBS 130 #[pZZ g,.string ⟨word.toArray⟩] w fun e w'=>e=.returned (.bool (Tr.aW s T [word] st.2))/\oK w0 K g h kind s T Ar c0 n i cc c1 st w':=
 (jQ X S.R word).mono fun _ _ ⟨h1,h2⟩=>⟨h1,S.below h2⟩
theorem jO(i:Nat)(f:Nat->Tr.St):Tr.thn ([],i) f=f i:=by unfold Tr.thn;simp
theorem AU(R:mO w K g s T Ar c0 n i cut)(kind:Nat):
  oK w (Old w) g w.heap.size kind s T Ar c0 n i 0 cut ([],i) (w.alloc (.cells #[vZZ kind,kZZ 0,.string ⟨#[]⟩,nZZ,kZZ 0,kZZ 0,kZZ 0,kZZ 0,.bool false] 93)):=by
 have hd:=nR w (.cells #[vZZ kind,kZZ 0,.string ⟨#[]⟩,nZZ,kZZ 0,kZZ 0,kZZ 0,kZZ 0,.bool false] 93);refine⟨Kept.cZ (Kept.below hd (Old.WK w)) g,?_,Bn.new (Old.WK w) kind,aBT _,R.hi,by simp⟩;have:=R.old.below hd
 rwa [<-aDK cut] at this
end
theorem TU{w:World}{K:Nat->Prop}{g:Nat}{s:Bs}{T:List Tk}{Ar:Option Addr}{c0 n i:Nat}{h kind:Nat}{pts:List Tr.PT}(b:Nat)(X:FZ s T)(R:mO w K g s T Ar c0 n i cut)(hb:Bn w K h kind pts)(hl:pts.length<=40000000):
  Calls aBS 134 #[pZZ g,pZZ h] w (lu w K g h kind s T Ar c0 n (cut||Tr.dQ [(Tr.bB s T b i).1]) (Tr.thn (pts,i) fun i=>Tr.aS (Tr.bB s T b i))):=by
 obtain⟨i0,ji,iW,jz1,iV⟩:=info_parts tV;have S:oK w (Old w) g w.heap.size 6 s T Ar c0 n i 0 cut ([],i) (w.alloc (.cells #[kZZ 6,kZZ 0,.string ⟨#[]⟩,nZZ,kZZ 0,kZZ 0,kZZ 0,kZZ 0,.bool false] 93)):=AU R 6;obtain⟨st,BA⟩:=dC (Tr.aN s T b [40] i);obtain⟨st2,UU⟩:=dC ((if Tr.aW s T [[41]] st.2 then st else Tr.dK s T b (Tr.aQ s T b) (T.length+1) (Tr.thn st (Tr.aQ s T b))))
 obtain⟨O1,AZ⟩:=dC (Tr.thn st2 (Tr.aN s T b [41]));have HPP:aC (Tr.bB s T b i=(.branch 6 (Tr.bC s T b i) O1.1,O1.2)):=by show _=_;rw[AZ,UU,BA];rfl
 have HP:aC ((Tr.thn (pts,i) fun i=>Tr.aS (Tr.bB s T b i))=(pts++[.branch 6 (Tr.bC s T b i) O1.1],O1.2)):=by show _=_;unfold Tr.thn Tr.aS;dsimp only;rw[HPP.o]
 have HD:aC ((cut||Tr.dQ [(Tr.bB s T b i).1])=(cut||Tr.dQ O1.1)):=by show _=_;rw[HPP.o];simp only[Tr.dQ,Tr.eO,aDK]
 rw[HP.o,HD.o];clear HP HPP HD;generalize Tr.bC s T b i=pl at *;have J3:=aB BA;have J2:=aB AZ;have HT:aC (Tr.aW s T [[41]] st.2=true->st=st2):=fun h=>by rw[UU,if_pos h]
 have HF:aC (Tr.aW s T [[41]] st.2=false->Tr.dK s T b (Tr.aQ s T b) (T.length+1) (Tr.thn st (Tr.aQ s T b))=st2):=fun h=>by rw[UU,if_neg (by rw[h];simp)]
 clear BA UU AZ;obtain⟨hp0,fB⟩:=dC w.heap.size;rw[<-fB] at S;obtain⟨dB,A,c,vs,hb⟩:=hb;have h0:=hb.blk.lt;have hr:=hb.kF;have vQ:=R.dL
 go_enter func134,ntmps134
 go_upto_region 1 with fail;rw[<-fB];clear fB;generalize w.alloc _=w1 at *;have hwt:=nH b X S [40] (by omega);rw[jO,<-J3.o] at hwt;clear S;go_wp2_with fail;refine hwt.mono ?_;clear hwt;rintro e w2 ⟨rfl,S⟩;have his:=MB X S [41];clear S;generalize Tr.aW s T [[41]] st.2=vb at *
 go_wp2_with fail;refine his.mono ?_;clear his;rintro e w3 ⟨rfl,S⟩;go_upto_if 15 with fail
 go_cut [15] (fun _ wc=>oK w (Old w) g hp0 6 s T Ar c0 n i 2 cut st2 wc)
 case first=>
  cases vb with
  |true=>have hst:=HT.o rfl;subst hst;go_wp2_with fail;go_meet;exact S.mono (by omega)
  |false=>
   have kC:=aB (HF.o rfl);clear HT HF;have hnm:=AX b X S (by omega);clear S;go_wp2_with fail;refine hnm.mono ?_;clear hnm;rintro e w4 ⟨rfl,S⟩;have his:=MB X S [44];go_wp2_with fail;refine his.mono ?_;clear his;rintro e w6 ⟨rfl,S⟩;go_wp2_with fail
   go_loopg [6] (T.length-(Tr.thn st (Tr.aQ s T b)).2) (fun q v wr=> ∃y:Tr.St,v=.bool (Tr.aW s T [[44]] y.2)/\(Tr.thn st (Tr.aQ s T b)).2<=y.2/\T.length-y.2<=q/\aC (Tr.dK s T b (Tr.aQ s T b) (T.length+1) y=st2)/\oK w (Old w) g hp0 6 s T Ar c0 n i 2 cut y wr)
   case atStart=>exact⟨_,rfl,aBT _,aBT _,kC,S⟩
   case round=>
    clear S kC;obtain⟨y,rfl,hy1,hq,Hy,S⟩:=hrel;have Ee:=S.ok.2.1;have hna:=Tr.iM s T b;have rZ:aC (Tr.aW s T [[44]] y.2=true->Tr.dK s T b (Tr.aQ s T b) (T.length+1) (Tr.fC s T b (Tr.aQ s T b) y)=st2/\y.2<(Tr.fC s T b (Tr.aQ s T b) y).2/\Tr.nD T i 2 (Tr.fC s T b (Tr.aQ s T b) y)):=fun h=>by have h1:=Tr.nN s T b hna y Ee (Tr.is_lt s T h);refine⟨by rw[<-Tr.yM s T b hna y Ee h];exact Hy.o,h1.1,by have:=S.ok.1;omega,h1.2.1,by have:=S.ok.2.2;have:=S.ok.1;omega⟩
    have kC:aC (Tr.aW s T [[44]] y.2=false->y=st2):=fun h=>by rw[<-Tr.yL s T b (Tr.aQ s T b) y h];exact Hy.o
    generalize Tr.aW s T [[44]] y.2=vc at *
    cases vc with
    |true=>
     obtain⟨hg1,hg2,hg3⟩:=rZ.o rfl;have Yj:=aB hg1;clear rZ kC Hy hg1 hna;have htk:=mJ b X S (by omega);clear S;go_wp2_with fail;refine htk.mono ?_;clear htk;rintro e w6 ⟨rfl,S⟩;have hnm:=AX b X S (by omega);clear S;go_wp2_with fail;refine hnm.mono ?_;clear hnm;rintro e w7 ⟨rfl,S⟩;have hS:oK w (Old w) g hp0 6 s T Ar c0 n i 2 cut (Tr.fC s T b (Tr.aQ s T b) y) w7:=⟨S.A,S.R,S.B,hg3⟩;clear S;have his:=MB X hS [44];clear hS;go_wp2_with fail;refine his.mono ?_;clear his;rintro e w8 ⟨rfl,S⟩;go_wp2_with fail
     go_roundg (T.length-(Tr.fC s T b (Tr.aQ s T b) y).2)
     case rel=>exact⟨_,rfl,by omega,aBT _,Yj,S⟩
     case measure=>have:=hg3.2.1;omega
    |false=>have hst:=kC.o rfl;clear rZ kC Hy hna;subst hst;go_wp2_with fail;go_meet;exact S
 case rest=>clear HT HF S;have S:=hcut;clear hcut;have hwt:=nH b X S [41] (by omega);rw[<-J2.o] at hwt;clear S;go_wp2_with fail;refine hwt.mono ?_;clear hwt;rintro e w4 ⟨rfl,S⟩;have hpt:Rn w4 (fun x=> ¬Old w x) (.branch 6 pl O1.1) (pZZ hp0):=S.B.part pl;have hp:=OE.of hpt vQ hb;have hb:=hb.cZ S.A R.kg (fun _ hx=>hx);have hA:=S.A.old vQ;have R:=R.dH S.R hA;clear S hpt h0 hr;have o1:=hb.blk.cell 3;simp[iG] at o1;have xI:=hb.blk.lt;go_wp2_with (at_builtin;refine wpList_append_lies _ rfl _ _ 40 rfl 0 89 i0 _ 1 8 underlying40 ji iW jz1 iV rfl (by omega) (.slice A pts.length c) pts.length vs rfl (hb.own.alloc (.cells #[pZZ hp0] 89)) ⟨w4.heap.size,0,none⟩ 1 1 [pZZ hp0] rfl rfl (aCK (heap_alloc_new w4 _)) (by simp[aCA]) (by omega) (by unfold maxLen;omega) (by omega) (aBZ _) (w4.heap.size+1) (by simp) ?_;intro gg cap' w5 hown5 hgrow hat lD;obtain⟨b1,bf,hB,hk,R5⟩:=kV R hb hp hown5 hgrow hat);go_end0;exact⟨rfl,hA.trans (hk.cZ g),R5,hB⟩
structure qj(F g:Nat)(s:Bs)(T:List Tk)(Ar:Option Addr)(c0 n:Nat)(e:Nat->Tr.St):Prop where
 SS:Tr.oQ T e 1
 calls: ∀(w:World) (K:Nat->Prop) (i h kind:Nat) (pts:List Tr.PT) (cut:Bool),mO w K g s T Ar c0 n i cut->Bn w K h kind pts->pts.length<=40000000->
  Calls aBS F #[pZZ g,pZZ h] w (lu w K g h kind s T Ar c0 n (cut||Tr.dQ (e i).1) (Tr.thn (pts,i) e))
def JE(w:World)(K:Nat->Prop)(g:Nat)(s:Bs)(T:List Tk)(Ar:Option Addr)(c0 n:Nat)(cut:Bool)(r:Tr.PT×Nat)(e:Ending)(w':World):Prop:=
 ∃q,e=.returned (pZZ q)/\fG K g w w'/\mO w' K g s T Ar c0 n r.2 (cut||Tr.eO r.1)/\Rn w' (fun x=> ¬K x) r.1 (pZZ q)
theorem JE.old {w w':World}{K:Nat->Prop}{g:Nat}{s:Bs}{T:List Tk}{Ar:Option Addr}{c0 n i:Nat}{r:Tr.PT×Nat}{e:Ending}(R:mO w K g s T Ar c0 n i cut)(h:JE w (Old w) g s T Ar c0 n cut r e w'):JE w K g s T Ar c0 n cut r e w':=by
 obtain⟨q,h1,h2,h3,h4⟩:=h;have hA:=h2.old R.dL;exact⟨q,h1,hA,R.dH h3 hA,h4.keep (aBT _) fun _ hF _=>⟨rfl,fun hk=>hF (R.dL _ hk)⟩⟩
section
variable{w:World}{K:Nat->Prop}{g:Nat}{s:Bs}{T:List Tk}{Ar:Option Addr}{c0 n i:Nat}{cut:Bool}{e:Nat->Tr.St}
theorem qj.step {w0:World}{h kind F:Nat}{cc:Nat}{c1:Bool}{st:Tr.St}(X:FZ s T)(E:qj F g s T Ar c0 n e)(S:oK w0 K g h kind s T Ar c0 n i cc c1 st w)(hc:cc<=1000):
  Calls aBS F #[pZZ g,pZZ h] w fun e' w'=>e'=.returned (.tuple #[])/\oK w0 K g h kind s T Ar c0 n i (cc+1) c1 (Tr.thn st e) w':=
 (E.calls w K st.2 h kind st.1 _ S.R S.B (by have:=S.len X hc;omega)).mono fun _ _ he=>S.step E.SS he
theorem Q3(hn:n<=1000)(E:qj 135 g s T Ar c0 (n+1) e):qj 178 g s T Ar c0 n e:=by
 refine⟨E.SS,fun w K i h kind pts cut R hb hl=> ?_⟩;obtain⟨_,_,_,g3,_⟩:=R.cells;have gf:=R.rd.frozen 3;have a0:=uX n (by omega);have ha:=(fG.refl (Old w) g w).set 3 (kZZ ((n+1:Nat):Int));have R1:=R.deep (n+1);have B1:=hb.cZ ha R.kg;have hx:=E.calls _ K i h kind pts cut R1 B1 hl;have ha:=ha.old R.dL
 try unfold vZZ at ha hx
 rw[show((n+1:Nat):Int)=(n:Int)+1 by omega] at ha hx;clear R hb B1 R1;generalize(cut||Tr.dQ (e i).1)=kr at *;generalize Tr.thn (pts,i) e=st at *
 go_enter func178,ntmps178
 go_wp2_with fail;refine hx.mono ?_;clear hx g3 gf;intro e1 w2 h2;obtain⟨rfl,hA2,R2,B2⟩:=h2;have hA:=ha.trans hA2;clear ha hA2;obtain⟨_,_,_,g3,_⟩:=R2.cells
 try unfold vZZ at g3
 rw[show((n+1:Nat):Int)=(n:Int)+1 by omega] at g3;have gf:=R2.rd.frozen 3;have a1:IntKind.i64.wrap ((n:Int)+1-1)=(n:Int):=by rw[show(n:Int)+1-1=n by omega];exact IntWalk.i64_in _ (by omega)
 go_wp2_with fail;go_end0;refine⟨rfl,hA.set 3 _,R2.deep n,B2.cZ ((fG.refl (Old w2) g w2).set 3 _) R2.kg⟩
theorem KU(b:Nat)(X:FZ s T)(E:qj 178 g s T Ar c0 n e)(R:mO w K g s T Ar c0 n i cut)(kl:Nat)(shut:Bs):
  Calls aBS 241 #[pZZ g,vZZ kl,.string ⟨shut.toArray⟩] w (JE w K g s T Ar c0 n cut (Tr.eH s T b e kl shut i)):=by
 refine Calls.mono ?_ fun _ _ h=>JE.old R h
 have S:=AU R kl;obtain⟨st,BA⟩:=dC (Tr.aK s T b i);obtain⟨st2,UU⟩:=dC ((if Tr.aW s T [shut] st.2 then st else Tr.dK s T b e (T.length+1) (Tr.thn st e)));obtain⟨O1,AZ⟩:=dC (Tr.thn st2 (Tr.aN s T b shut));have HPP:aC (Tr.eH s T b e kl shut i=(.branch kl (Tr.bC s T b i) O1.1,O1.2)):=by show _=_;rw[AZ,UU,BA];rfl
 rw[HPP.o];clear HPP;generalize Tr.bC s T b i=pl at *;have J3:=aB BA;have J2:=aB AZ;have HT:aC (Tr.aW s T [shut] st.2=true->st=st2):=fun h=>by rw[UU,if_pos h]
 have HF:aC (Tr.aW s T [shut] st.2=false->Tr.dK s T b e (T.length+1) (Tr.thn st e)=st2):=fun h=>by rw[UU,if_neg (by rw[h];simp)]
 clear BA UU AZ;obtain⟨hp0,fB⟩:=dC w.heap.size;rw[<-fB] at S;clear R
 go_enter func241,ntmps241
 go_upto_region 2 with fail;rw[<-fB];clear fB;generalize w.alloc _=w1 at *;have htk:=mJ b X S (by omega);rw[jO,<-J3.o] at htk;clear S;go_wp2_with fail;refine htk.mono ?_;clear htk;rintro e1 w2 ⟨rfl,S⟩;have his:=MB X S shut;clear S;generalize Tr.aW s T [shut] st.2=vb at *;go_wp2_with fail;refine his.mono ?_;clear his;rintro e1 w3 ⟨rfl,S⟩;go_upto_if 20 with fail
 go_cut [20] (fun _ wc=>oK w (Old w) g hp0 kl s T Ar c0 n i 2 cut st2 wc)
 case first=>
  cases vb with
  |true=>have hst:=HT.o rfl;subst hst;go_wp2_with fail;go_meet;exact S.mono (by omega)
  |false=>
   have kC:=aB (HF.o rfl);clear HT HF;have hnm:=E.step X S (by omega);clear S;go_wp2_with fail;refine hnm.mono ?_;clear hnm;rintro e1 w4 ⟨rfl,S⟩;replace S:=S.mono (d:=2) (by omega);have his:=MB X S [44];clear S;go_wp2_with fail;refine his.mono ?_;clear his;rintro e1 w6 ⟨rfl,S⟩;go_wp2_with fail
   go_loopg [9] (T.length-(Tr.thn st e).2) (fun q v wr=> ∃y:Tr.St,v=.bool (Tr.aW s T [[44]] y.2)/\(Tr.thn st e).2<=y.2/\T.length-y.2<=q/\aC (Tr.dK s T b e (T.length+1) y=st2)/\oK w (Old w) g hp0 kl s T Ar c0 n i 2 cut y wr)
   case atStart=>exact⟨_,rfl,aBT _,aBT _,kC,S⟩
   case round=>
    clear S kC;obtain⟨y,rfl,hy1,hq,Hy,S⟩:=hrel;have Ee:=S.ok.2.1;have hna:=E.SS;have rZ:aC (Tr.aW s T [[44]] y.2=true->Tr.dK s T b e (T.length+1) (Tr.fC s T b e y)=st2/\y.2<(Tr.fC s T b e y).2/\Tr.nD T i 2 (Tr.fC s T b e y)):=fun h=>by have h1:=Tr.nN s T b hna y Ee (Tr.is_lt s T h);refine⟨by rw[<-Tr.yM s T b hna y Ee h];exact Hy.o,h1.1,by have:=S.ok.1;omega,h1.2.1,by have:=S.ok.2.2;have:=S.ok.1;omega⟩
    have kC:aC (Tr.aW s T [[44]] y.2=false->y=st2):=fun h=>by rw[<-Tr.yL s T b e y h];exact Hy.o
    generalize Tr.aW s T [[44]] y.2=vc at *
    cases vc with
    |true=>
     obtain⟨hg1,hg2,hg3⟩:=rZ.o rfl;have Yj:=aB hg1;clear rZ kC Hy hg1 hna;have htk:=mJ b X S (by omega);clear S;go_wp2_with fail;refine htk.mono ?_;clear htk;rintro e1 w6 ⟨rfl,S⟩;have hnm:=E.step X S (by omega);clear S;go_wp2_with fail;refine hnm.mono ?_;clear hnm;rintro e1 w7 ⟨rfl,S⟩;have hS:oK w (Old w) g hp0 kl s T Ar c0 n i 2 cut (Tr.fC s T b e y) w7:=⟨S.A,S.R,S.B,hg3⟩;clear S;have his:=MB X hS [44];clear hS;go_wp2_with fail;refine his.mono ?_;clear his;rintro e1 w8 ⟨rfl,S⟩;go_wp2_with fail
     go_roundg (T.length-(Tr.fC s T b e y).2)
     case rel=>exact⟨_,rfl,by omega,aBT _,Yj,S⟩
     case measure=>have:=hg3.2.1;omega
    |false=>have hst:=kC.o rfl;clear rZ kC Hy hna;subst hst;go_wp2_with fail;go_meet;exact S
 case rest=>
  clear HT HF S;have S:=hcut;clear hcut;have hwt:=nH b X S shut (by omega);rw[<-J2.o] at hwt;clear S;go_wp2_with fail;refine hwt.mono ?_;clear hwt;rintro e1 w4 ⟨rfl,S⟩;go_wp2_with fail;go_ret;refine⟨hp0,rfl,S.A,?_,S.B.part pl⟩;have:=S.R
  rwa [show Tr.eO (.branch kl pl O1.1)=Tr.dQ O1.1 from by simp only[Tr.eO]]
theorem Rn.two {w0:World}{a kind:Nat}{p x:Tr.PT}{q u:Nat}(hK:In K w0)(hs:w0.heap.size<=w.heap.size)(hp:Rn w (fun y=> ¬K y/\y<w0.heap.size) p (pZZ q))(hx:Rn w (fun y=> ¬Old w0 y) x (pZZ u)):
  Rn ((w.alloc (.cells #[pZZ q,pZZ u] 89)).alloc (.cells #[vZZ kind,kZZ 0,.string ⟨#[]⟩,.slice (some ⟨w.heap.size,0,none⟩) 2 2,kZZ 0,kZZ 0,kZZ 0,kZZ 0,.bool false] 93)) (fun y=> ¬K y) (.branch kind a [p,x]) (.pointer (some ⟨w.heap.size+1,0,none⟩)):=by
 obtain⟨fp,hp,hn⟩:=hp;obtain⟨fx,hx,hm⟩:=hx;have hd:Below w.heap.size w ((w.alloc (.cells #[pZZ q,pZZ u] 89)).alloc (.cells #[vZZ kind,kZZ 0,.string ⟨#[]⟩,.slice (some ⟨w.heap.size,0,none⟩) 2 2,kZZ 0,kZZ 0,kZZ 0,kZZ 0,.bool false] 93)):=((aBU _ _).alloc (aBT _) _).alloc (by simp) _;have hz:(w.alloc (.cells #[pZZ q,pZZ u] 89)).heap.size=w.heap.size+1:=by simp
 have hB:=aV.new (w.alloc (.cells #[pZZ q,pZZ u] 89)) 93 #[vZZ kind,kZZ 0,.string ⟨#[]⟩,.slice (some ⟨w.heap.size,0,none⟩) 2 2,kZZ 0,kZZ 0,kZZ 0,kZZ 0,.bool false];rw[hz] at hB;have hR:=(aV.new w 89 #[pZZ q,pZZ u]).alloc (.cells #[vZZ kind,kZZ 0,.string ⟨#[]⟩,.slice (some ⟨w.heap.size,0,none⟩) 2 2,kZZ 0,kZZ 0,kZZ 0,kZZ 0,.bool false] 93);have vO:=wQ.fp _ _ _ hp;have hxx:=wQ.fp _ _ _ hx;have hno: ∀y,K y->y<w.heap.size:=fun y hy=>Nat.lt_of_lt_of_le (hK y hy) hs
 refine⟨(w.heap.size+1)::(fp++fx),⟨w.heap.size+1,fp++fx,rfl,rfl,fun h=>by have:=hno _ h;omega,_,2,[pZZ q,pZZ u],hB,by simp,fun _=>⟨w.heap.size,0,rfl,fun h=>aDR _ (hno _ h),?_,fun j v hv=> ?_⟩,fp,fx,_,_,rfl,rfl,?_,gV.one ?_⟩,?_⟩
 ·simp;omega
 ·rw[Nat.zero_add,hR.cell j];simpa using hv
 ·exact wQ.keep hd.size (fun y hF hl=>⟨hd.block y hl,hF.1⟩) _ _ _ hp
 ·exact wQ.keep hd.size (fun y hF hl=>⟨hd.block y hl,fun hk=>hF (hK _ hk)⟩) _ _ _ hx
 ·refine List.nodup_cons.2 ⟨fun hm=> ?_,List.nodup_append.2 ⟨hn,hm,fun y hy z hz e=> ?_⟩⟩
  ·rcases List.mem_append.1 hm with hm|hm
   ·have:=(vO _ hm).2;omega
   ·have:=(hxx _ hm).2;omega
  ·subst e;exact(hxx _ hz).1 (vO _ hy).1.2
theorem S9(b:Nat)(X:FZ s T)(E:qj 178 g s T Ar c0 n e)(R:mO w K g s T Ar c0 n i cut)
  (hone:Calls aBS 240 #[pZZ g] w (JE w K g s T Ar c0 n cut (Tr.fD s T b e i))):
  Calls aBS 220 #[pZZ g] w (JE w K g s T Ar c0 n cut (Tr.oG s T b e i)):=by
 have Yj:=Tr.FC s T b E.SS i R.hi;generalize hr:Tr.oG s T b e i=r;have Hr:aC (Tr.gJ s T b e (T.length+1) (Tr.fD s T b e i)=r):=hr;clear hr
 go_enter func220,ntmps220
 go_wp2_with fail;refine hone.mono ?_;clear hone;intro e1 w1 h1;obtain⟨q,rfl,hA,R,hp⟩:=h1;generalize Tr.fD s T b e i=q1 at *;have his:=jQ X R [40];go_wp2_with fail;refine his.mono ?_;clear his;rintro e1 w2 ⟨rfl,hd⟩;have hA:=hA.trans (Kept.cZ (Kept.below hd R.dL) g);have hp:=hp.keep (F':=fun x=> ¬K x) hd.size (fun y hF hl=>⟨hd.block y hl,hF⟩);have R:=R.below hd;clear hd;go_wp2_with fail
 go_loopg [3,4] (T.length-q1.2) (fun m v u wr=> ∃(x:Tr.PT×Nat) (q:Nat),v=pZZ q/\u=.bool (Tr.aW s T [[40]] x.2)/\q1.2<=x.2/\T.length-x.2<=m/\aC (Tr.gJ s T b e (T.length+1) x=r)/\fG K g w wr/\mO wr K g s T Ar c0 n x.2 (cut||Tr.eO x.1)/\Rn wr (fun x=> ¬K x) x.1 (pZZ q))
 case atStart=>exact⟨q1,q,rfl,rfl,aBT _,aBT _,Hr,hA,R,hp⟩
 case round=>
  clear hA R hp Hr;obtain⟨x,q,rfl,rfl,hx1,hq,Hx,hA,R,hp⟩:=hrel;have hi:=R.hi;have jA:aC (Tr.aW s T [[40]] x.2=true->Tr.gJ s T b e (T.length+1) (Tr.mD s T b e x)=r/\x.2<(Tr.mD s T b e x).2):=fun h=>⟨by rw[<-Tr.NM s T b E.SS x R.hi h];exact Hx.o,Tr.JK s T b E.SS 12 [41] x.2 R.hi (Tr.is_lt s T h)⟩
  have fU:aC (Tr.aW s T [[40]] x.2=false->x=r):=fun h=>by rw[<-Tr.NL s T b e x h];exact Hx.o
  generalize Tr.aW s T [[40]] x.2=vb at *
  cases vb with
  |true=>
   obtain⟨hst,hgt⟩:=jA.o rfl;have kC:=aB hst;clear jA fU Hx hst;have A_:aC (Tr.mD s T b e x=(.branch 11 x.1.from_ [x.1,(Tr.eH s T b e 12 [41] x.2).1],(Tr.eH s T b e 12 [41] x.2).2)):=rfl;generalize x.1.from_=fr at *;have hls:Calls aBS 241 #[pZZ g,kZZ 12,.string ⟨#[41]⟩] wr (JE wr (Old wr) g s T Ar c0 n (cut||Tr.eO x.1) (Tr.eH s T b e 12 [41] x.2)):=KU b X E R.old 12 [41];generalize Tr.eH s T b e 12 [41] x.2=lr at *;go_wp2_with fail;refine hls.mono ?_;clear hls;intro e1 w4 h4;obtain⟨u,rfl,nJ,R4,hu⟩:=h4;have vQ:=R.dL;have tH:Rn w4 (fun y=> ¬K y/\y<wr.heap.size) x.1 (pZZ q):=hp.keep nJ.size fun y hF hl=>⟨nJ.sI y hl fun e=>hF (e▸R.kg),hF,hl⟩
   have h2:Rn ((w4.alloc (.cells #[pZZ q,pZZ u] 89)).alloc (.cells #[kZZ 11,kZZ 0,.string ⟨#[]⟩,.slice (some ⟨w4.heap.size,0,none⟩) 2 2,kZZ 0,kZZ 0,kZZ 0,kZZ 0,.bool false] 93)) (fun y=> ¬K y) (.branch 11 fr [x.1,lr.1]) (.pointer (some ⟨w4.heap.size+1,0,none⟩)):=Rn.two vQ nJ.size tH hu;have hd:Below w4.heap.size w4 ((w4.alloc (.cells #[pZZ q,pZZ u] 89)).alloc (.cells #[kZZ 11,kZZ 0,.string ⟨#[]⟩,.slice (some ⟨w4.heap.size,0,none⟩) 2 2,kZZ 0,kZZ 0,kZZ 0,kZZ 0,.bool false] 93)):=((aBU _ _).alloc (aBT _) _).alloc (by simp) _;have nJ:=nJ.old vQ;have R4:=R.dH R4 nJ;have hA:=(hA.trans nJ).trans (Kept.cZ (Kept.below hd R4.dL) g);have R4:=R4.below hd;have R5:mO ((w4.alloc (.cells #[pZZ q,pZZ u] 89)).alloc (.cells #[kZZ 11,kZZ 0,.string ⟨#[]⟩,.slice (some ⟨w4.heap.size,0,none⟩) 2 2,kZZ 0,kZZ 0,kZZ 0,kZZ 0,.bool false] 93)) K g s T Ar c0 n (Tr.mD s T b e x).2 (cut||Tr.eO (Tr.mD s T b e x).1):=by
    rw[A_.out];have e2:(cut||Tr.eO (Tr.PT.branch 11 fr [x.1,lr.1]))=((cut||Tr.eO x.1)||Tr.eO lr.1):=by simp only[Tr.eO,Tr.dQ,aDK,aFQ]
    rw[e2];exact R4
   have h2:Rn ((w4.alloc (.cells #[pZZ q,pZZ u] 89)).alloc (.cells #[kZZ 11,kZZ 0,.string ⟨#[]⟩,.slice (some ⟨w4.heap.size,0,none⟩) 2 2,kZZ 0,kZZ 0,kZZ 0,kZZ 0,.bool false] 93)) (fun y=> ¬K y) (Tr.mD s T b e x).1 (.pointer (some ⟨w4.heap.size+1,0,none⟩)):=(by rw[A_.out];exact h2);clear R4 hd tH nJ hu A_ hp R hi;generalize Tr.mD s T b e x=y at *;have his:=jQ X R5 [40];obtain⟨q5,UX⟩:=dC (w4.heap.size+1);rw[<-UX] at h2;go_upto_region 6 with fail;rw[<-UX];clear UX;generalize((w4.alloc _).alloc _)=w5 at *;go_wp2_with fail;refine his.mono ?_;clear his;rintro e1 w6 ⟨rfl,hd⟩;have hA:=hA.trans (Kept.cZ (Kept.below hd R5.dL) g);have hp:=h2.keep (F':=fun x=> ¬K x) hd.size (fun y hF hl=>⟨hd.block y hl,hF⟩);have R:=R5.below hd;clear hd h2 R5;go_wp2_with fail
   go_roundg (T.length-y.2)
   case rel=>exact⟨y,q5,rfl,rfl,by omega,aBT _,kC,hA,R,hp⟩
   case measure=>have h2:y.2<=T.length:=R.hi;omega
  |false=>have hst:=fU.o rfl;clear jA fU Hx;subst hst;go_wp2_with fail;go_ret;exact⟨q,rfl,hA,R,hp⟩
end
structure xk(g:Nat)(s:Bs)(T:List Tk)(Ar:Option Addr)(c0 n k:Nat)(one:Nat->Tr.PT×Nat):Prop where
 goes:Tr.Goes T one
 calls: ∀(w:World) (K:Nat->Prop) (i:Nat) (cut:Bool),mO w K g s T Ar c0 n i cut->Calls aBS 179 #[pZZ g,vZZ k] w (JE w K g s T Ar c0 n cut (one i))
section
variable{w:World}{K:Nat->Prop}{g:Nat}{s:Bs}{T:List Tk}{Ar:Option Addr}{c0 n i:Nat}{cut:Bool}{e:Nat->Tr.St}
theorem Bn.around {p:Tr.PT}{q:Nat}(hK:In K w)(kind:Nat)(hp:Rn w (fun y=> ¬K y) p (pZZ q)):
  Bn ((w.alloc (.cells #[pZZ q] 89)).alloc (.cells #[vZZ kind,kZZ 0,.string ⟨#[]⟩,.slice (some ⟨w.heap.size,0,none⟩) 1 1,kZZ 0,kZZ 0,kZZ 0,kZZ 0,.bool false] 93)) K (w.heap.size+1) kind [p]:=by
 obtain⟨fp,hp,hn⟩:=hp;have hd:Below w.heap.size w ((w.alloc (.cells #[pZZ q] 89)).alloc (.cells #[vZZ kind,kZZ 0,.string ⟨#[]⟩,.slice (some ⟨w.heap.size,0,none⟩) 1 1,kZZ 0,kZZ 0,kZZ 0,kZZ 0,.bool false] 93)):=((aBU _ _).alloc (aBT _) _).alloc (by simp) _;have hz:(w.alloc (.cells #[pZZ q] 89)).heap.size=w.heap.size+1:=by simp
 have hB:=aV.new (w.alloc (.cells #[pZZ q] 89)) 93 #[vZZ kind,kZZ 0,.string ⟨#[]⟩,.slice (some ⟨w.heap.size,0,none⟩) 1 1,kZZ 0,kZZ 0,kZZ 0,kZZ 0,.bool false];rw[hz] at hB;refine⟨fp,some ⟨w.heap.size,0,none⟩,1,[pZZ q],⟨fun h=>by have:=hK _ h;omega,hB,?_,?_,?_,hn⟩⟩
 ·exact(World.ownsRow_lit (base:=0) (e:=89) (size:=1) w #[pZZ q] 1 (aBZ _) (by unfold maxLen;omega) rfl).alloc _
 ·intro x hx;simp only[aCZ,aDB.injEq] at hx;subst hx;exact fun h=>aDR _ (hK _ h)
 ·exact gV.one (wQ.keep hd.size (fun x hF hl=>⟨hd.block x hl,hF,by omega,fun e=>by simp only[aCZ,aDB.injEq] at e;omega⟩) _ _ _ hp)
theorem TY(b:Nat){one:Nat->Tr.PT×Nat}(X:FZ s T)(L:xk g s T Ar c0 n 3 one):xk g s T Ar c0 n 2 (Tr.rowP s T b one [[42]]):=by
 refine⟨Tr.CB s T b L.goes [[42]],fun w K i cut R=> ?_⟩
 obtain⟨i0,ji,iW,jz1,iV⟩:=info_parts tV;have hL:Calls aBS 179 #[pZZ g,kZZ 3] w (JE w K g s T Ar c0 n cut (one i)):=L.calls w K i cut R;have hg0:=L.goes i R.hi;generalize hr:Tr.rowP s T b one [[42]] i=r
 have Hr:aC (Tr.iX s T b one [[42]] (T.length+1) (one i)=r):=hr
 clear hr
 go_enter func179,ntmps179
 go_wp2_with fail;refine hL.mono ?_;clear hL R;intro e1 w1 h1;obtain⟨q,rfl,hA,R,hp⟩:=h1;generalize one i=q1 at *;go_wp2_with fail
 go_loopg [6] (T.length-q1.2) (fun m v wr=> ∃(x:Tr.PT×Nat) (q:Nat),v=pZZ q/\q1.2<=x.2/\T.length-x.2<=m/\aC (Tr.iX s T b one [[42]] (T.length+1) x=r)/\fG K g w wr/\mO wr K g s T Ar c0 n x.2 (cut||Tr.eO x.1)/\Rn wr (fun x=> ¬K x) x.1 (pZZ q))
 case atStart=>exact⟨q1,q,rfl,aBT _,aBT _,Hr,hA,R,hp⟩
 case round=>
  clear hA R hp Hr;obtain⟨x,q,rfl,hx1,hq,Hx,hA,R,hp⟩:=hrel;have hi:=R.hi;have jA:aC (Tr.aW s T [[42]] x.2=true->Tr.iX s T b one [[42]] (T.length+1) (Tr.iA s T b one x)=r/\x.2<(Tr.iA s T b one x).2):=fun h=>⟨by rw[<-Tr.FB s T b L.goes [[42]] x hi h];exact Hx.o,Tr.NS s T b L.goes x hi (Tr.is_lt s T h)⟩
  have fU:aC (Tr.aW s T [[42]] x.2=false->x=r):=fun h=>by rw[<-Tr.EZ s T b one [[42]] x h];exact Hx.o
  clear Hx;have his: ∀(y:Bs) (w':World),Below wr.heap.size wr w'->Calls aBS 130 #[pZZ g,.string ⟨y.toArray⟩] w' fun e' w''=>e'=.returned (.bool (Tr.aW s T [y] x.2))/\Below wr.heap.size wr w'':=fun y w' hd=>(jQ X (R.below hd) y).mono fun _ _ h=>⟨h.1,hd.trans (h.2.mono hd.size)⟩
  have hs0:=his [42];clear his;generalize Tr.aW s T [[42]] x.2=va at *
  go_upto_if 25 with fail
  go_cut [7] (fun z wc=>z=.bool va/\Below wr.heap.size wr wc)
  case first=>
   have hs0:=hs0 wr (aBU _ _);go_wp2_with fail;refine hs0.mono ?_;clear hs0;rintro e1 wi0 ⟨rfl,hd0⟩
   ·go_wp2_with fail;go_meet;exact⟨rfl,hd0⟩
  case rest=>
   obtain⟨rfl,hd⟩:=hcut;have hA:=hA.trans (Kept.cZ (Kept.below hd R.dL) g);have hp:=hp.keep (F':=fun x=> ¬K x) hd.size (fun y hF hl=>⟨hd.block y hl,hF⟩);have R:=R.below hd;clear hd hs0;cases va with
   |false=>have hst:=fU.o rfl;clear jA fU;subst hst;go_wp2_with fail;go_ret;exact⟨q,rfl,hA,R,hp⟩
   |true=>
    obtain⟨hst,hgt⟩:=jA.o rfl;have kC:=aB hst;clear jA fU hst;have B1:Bn (((wc).alloc (.cells #[pZZ q] 89)).alloc (.cells #[kZZ 10,kZZ 0,.string ⟨#[]⟩,.slice (some ⟨wc.heap.size,0,none⟩) 1 1,kZZ 0,kZZ 0,kZZ 0,kZZ 0,.bool false] 93)) K (wc.heap.size+1) 10 [x.1]:=Bn.around R.dL 10 hp;have hd:Below wc.heap.size wc (((wc).alloc (.cells #[pZZ q] 89)).alloc (.cells #[kZZ 10,kZZ 0,.string ⟨#[]⟩,.slice (some ⟨wc.heap.size,0,none⟩) 1 1,kZZ 0,kZZ 0,kZZ 0,kZZ 0,.bool false] 93)):=((aBU _ _).alloc (aBT _) _).alloc (by simp) _;have hA:=hA.trans (Kept.cZ (Kept.below hd R.dL) g);have R:=R.below hd;clear hd hp;obtain⟨hm,hhm⟩:=dC (wc.heap.size+1);rw[<-hhm] at B1;go_upto_region 19 with fail;rw[<-hhm];clear hhm;generalize(((wc).alloc _).alloc _)=w2 at *;have htk:=oZ b X R B1 (by simp);clear B1;go_wp2_with fail;refine htk.mono ?_;clear htk R;intro e1 w3 h3;obtain⟨rfl,hA3,R,hb⟩:=h3;have hA:=hA.trans hA3;clear hA3;have htl:(Tr.thn ([x.1],x.2) (Tr.aK s T b)).1.length<=10000000:=by have h1:=Tr.take_len s T b x.2 hi;have h2:=Tr.vY T x.2;have h3:=X.hT;unfold Tr.thn;simp only[aBW,aGE];omega
    have hgo:=L.goes (Tr.thn ([x.1],x.2) (Tr.aK s T b)).2 R.hi;have zJ:aC (Tr.iA s T b one x=(.branch 10 x.1.from_ ((Tr.thn ([x.1],x.2) (Tr.aK s T b)).1++[(one (Tr.thn ([x.1],x.2) (Tr.aK s T b)).2).1]),(one (Tr.thn ([x.1],x.2) (Tr.aK s T b)).2).2)):=rfl;have J7:aC (Tr.eO (Tr.iA s T b one x).1=(Tr.eO x.1||Tr.eO (one (Tr.thn ([x.1],x.2) (Tr.aK s T b)).2).1)):=(by show _=_;rw[zJ.o];have hc:=rC s T b x.2;simp only[Tr.eO,Tr.dQ,Tr.yR,Tr.thn,aCT,aCU,hc,aDK,Bool.false_or]);generalize(Tr.thn ([x.1],x.2) (Tr.aK s T b))=st at *;have hL:Calls aBS 179 #[pZZ g,kZZ 3] w3 (JE w3 (Old w3) g s T Ar c0 n (cut||Tr.eO x.1) (one st.2)):=L.calls w3 _ st.2 _ R.old;generalize one st.2=y at *;go_wp2_with fail;refine hL.mono ?_;clear hL;intro e1 w4 h4;obtain⟨u,rfl,nJ,R4,hu⟩:=h4;obtain⟨dB,A,c,vs,hb⟩:=hb;have hp:=OE.of hu R.dL hb;have hb:=hb.cZ nJ R.kg (fun _ hx=>hx);have nJ:=nJ.old R.dL;have R:=R.dH R4 nJ;have hA:=hA.trans nJ;clear nJ R4 hu;have o1:=hb.blk.cell 3;simp[iG] at o1;have xI:=hb.blk.lt;obtain⟨pts,ZI⟩:=dC st.1;rw[<-ZI] at zJ hp hb o1 htl;clear ZI hgo;generalize Tr.iA s T b one x=xb at *;have PW:=aB hgt;clear hgt;go_wp2_with (at_builtin;refine wpList_append_lies _ rfl _ _ 40 rfl 0 89 i0 _ 1 8 underlying40 ji iW jz1 iV rfl (by omega) (.slice A pts.length c) pts.length vs rfl (hb.own.alloc (.cells #[pZZ u] 89)) ⟨w4.heap.size,0,none⟩ 1 1 [pZZ u] rfl rfl (aCK (heap_alloc_new w4 _)) (by simp[aCA]) (by omega) (by unfold maxLen;omega) (by omega) (aBZ _) (w4.heap.size+1) (by simp) ?_;intro gg cap' w5 hown5 hgrow hat lD;obtain⟨b1,bf,hB,hk,R5⟩:=kV R hb hp hown5 hgrow hat)
    go_roundg (T.length-xb.2)
    case rel=>have hR6:mO (w5.setCell ⟨hm,3,none⟩ (.slice (some ⟨gg,0,none⟩) (pts.length+1) cap')) K g s T Ar c0 n xb.2 (cut||Tr.eO xb.1):=(by rw[J7.o,zJ.o,<-aFQ];exact R5);have Sm:Rn (w5.setCell ⟨hm,3,none⟩ (.slice (some ⟨gg,0,none⟩) (pts.length+1) cap')) (fun x=> ¬K x) xb.1 (pZZ hm):=(by rw[zJ.o];exact hB.part _);have zD:=hA.trans (hk.cZ g);have hgt:=PW.o;exact⟨xb,hm,rfl,by omega,aBT _,kC,zD,hR6,Sm⟩
    case measure=>have hgt:=PW.o;have h2:xb.2<=T.length:=(by rw[zJ.o];exact R5.hi);omega
theorem TZ(b:Nat){one:Nat->Tr.PT×Nat}(X:FZ s T)(L:xk g s T Ar c0 n 2 one):xk g s T Ar c0 n 1 (Tr.rowP s T b one [[43],[45],[43,43]]):=by
 refine⟨Tr.CB s T b L.goes [[43],[45],[43,43]],fun w K i cut R=> ?_⟩
 obtain⟨i0,ji,iW,jz1,iV⟩:=info_parts tV;have hL:Calls aBS 179 #[pZZ g,kZZ 2] w (JE w K g s T Ar c0 n cut (one i)):=L.calls w K i cut R;have hg0:=L.goes i R.hi;generalize hr:Tr.rowP s T b one [[43],[45],[43,43]] i=r
 have Hr:aC (Tr.iX s T b one [[43],[45],[43,43]] (T.length+1) (one i)=r):=hr
 clear hr
 go_enter func179,ntmps179
 go_wp2_with fail;refine hL.mono ?_;clear hL R;intro e1 w1 h1;obtain⟨q,rfl,hA,R,hp⟩:=h1;generalize one i=q1 at *;go_wp2_with fail
 go_loopg [6] (T.length-q1.2) (fun m v wr=> ∃(x:Tr.PT×Nat) (q:Nat),v=pZZ q/\q1.2<=x.2/\T.length-x.2<=m/\aC (Tr.iX s T b one [[43],[45],[43,43]] (T.length+1) x=r)/\fG K g w wr/\mO wr K g s T Ar c0 n x.2 (cut||Tr.eO x.1)/\Rn wr (fun x=> ¬K x) x.1 (pZZ q))
 case atStart=>exact⟨q1,q,rfl,aBT _,aBT _,Hr,hA,R,hp⟩
 case round=>
  clear hA R hp Hr;obtain⟨x,q,rfl,hx1,hq,Hx,hA,R,hp⟩:=hrel;have hi:=R.hi;have jA:aC (Tr.aW s T [[43],[45],[43,43]] x.2=true->Tr.iX s T b one [[43],[45],[43,43]] (T.length+1) (Tr.iA s T b one x)=r/\x.2<(Tr.iA s T b one x).2):=fun h=>⟨by rw[<-Tr.FB s T b L.goes [[43],[45],[43,43]] x hi h];exact Hx.o,Tr.NS s T b L.goes x hi (Tr.is_lt s T h)⟩
  have fU:aC (Tr.aW s T [[43],[45],[43,43]] x.2=false->x=r):=fun h=>by rw[<-Tr.EZ s T b one [[43],[45],[43,43]] x h];exact Hx.o
  have JF:aC (Tr.aW s T [[43],[45],[43,43]] x.2=(Tr.aW s T [[43]] x.2||Tr.aW s T [[45]] x.2||Tr.aW s T [[43,43]] x.2)):=Pg s T _ _ _ _
  clear Hx;have his: ∀(y:Bs) (w':World),Below wr.heap.size wr w'->Calls aBS 130 #[pZZ g,.string ⟨y.toArray⟩] w' fun e' w''=>e'=.returned (.bool (Tr.aW s T [y] x.2))/\Below wr.heap.size wr w'':=fun y w' hd=>(jQ X (R.below hd) y).mono fun _ _ h=>⟨h.1,hd.trans (h.2.mono hd.size)⟩
  have hs0:=his [43];have hs1:=his [45];have hs2:=his [43,43];clear his;generalize Tr.aW s T [[43]] x.2=v0 at *
  generalize Tr.aW s T [[45]] x.2=v1 at *
  generalize Tr.aW s T [[43,43]] x.2=v2 at *
  generalize Tr.aW s T [[43],[45],[43,43]] x.2=va at *
  go_upto_if 25 with fail
  go_cut [7] (fun z wc=>z=.bool va/\Below wr.heap.size wr wc)
  case first=>
   have hs0:=hs0 wr (aBU _ _);go_wp2_with fail;refine hs0.mono ?_;clear hs0;rintro e1 wi0 ⟨rfl,hd0⟩;have hs1:=hs1 wi0 hd0;go_wp2_with fail;refine hs1.mono ?_;clear hs1;rintro e1 wi1 ⟨rfl,hd1⟩;have hs2:=hs2 wi1 hd1;go_wp2_with fail;refine hs2.mono ?_;clear hs2;rintro e1 wi2 ⟨rfl,hd2⟩;cases v0<;>cases v1<;>cases v2<;>
   ·go_wp2_with fail;go_meet;exact⟨by rw[JF.o];rfl,hd2⟩
  case rest=>
   obtain⟨rfl,hd⟩:=hcut;have hA:=hA.trans (Kept.cZ (Kept.below hd R.dL) g);have hp:=hp.keep (F':=fun x=> ¬K x) hd.size (fun y hF hl=>⟨hd.block y hl,hF⟩);have R:=R.below hd;clear hd hs0 hs1 hs2 JF;cases va with
   |false=>have hst:=fU.o rfl;clear jA fU;subst hst;go_wp2_with fail;go_ret;exact⟨q,rfl,hA,R,hp⟩
   |true=>
    obtain⟨hst,hgt⟩:=jA.o rfl;have kC:=aB hst;clear jA fU hst;have B1:Bn (((wc).alloc (.cells #[pZZ q] 89)).alloc (.cells #[kZZ 10,kZZ 0,.string ⟨#[]⟩,.slice (some ⟨wc.heap.size,0,none⟩) 1 1,kZZ 0,kZZ 0,kZZ 0,kZZ 0,.bool false] 93)) K (wc.heap.size+1) 10 [x.1]:=Bn.around R.dL 10 hp;have hd:Below wc.heap.size wc (((wc).alloc (.cells #[pZZ q] 89)).alloc (.cells #[kZZ 10,kZZ 0,.string ⟨#[]⟩,.slice (some ⟨wc.heap.size,0,none⟩) 1 1,kZZ 0,kZZ 0,kZZ 0,kZZ 0,.bool false] 93)):=((aBU _ _).alloc (aBT _) _).alloc (by simp) _;have hA:=hA.trans (Kept.cZ (Kept.below hd R.dL) g);have R:=R.below hd;clear hd hp;obtain⟨hm,hhm⟩:=dC (wc.heap.size+1);rw[<-hhm] at B1;go_upto_region 19 with fail;rw[<-hhm];clear hhm;generalize(((wc).alloc _).alloc _)=w2 at *;have htk:=oZ b X R B1 (by simp);clear B1;go_wp2_with fail;refine htk.mono ?_;clear htk R;intro e1 w3 h3;obtain⟨rfl,hA3,R,hb⟩:=h3;have hA:=hA.trans hA3;clear hA3;have htl:(Tr.thn ([x.1],x.2) (Tr.aK s T b)).1.length<=10000000:=by have h1:=Tr.take_len s T b x.2 hi;have h2:=Tr.vY T x.2;have h3:=X.hT;unfold Tr.thn;simp only[aBW,aGE];omega
    have hgo:=L.goes (Tr.thn ([x.1],x.2) (Tr.aK s T b)).2 R.hi;have zJ:aC (Tr.iA s T b one x=(.branch 10 x.1.from_ ((Tr.thn ([x.1],x.2) (Tr.aK s T b)).1++[(one (Tr.thn ([x.1],x.2) (Tr.aK s T b)).2).1]),(one (Tr.thn ([x.1],x.2) (Tr.aK s T b)).2).2)):=rfl;have J7:aC (Tr.eO (Tr.iA s T b one x).1=(Tr.eO x.1||Tr.eO (one (Tr.thn ([x.1],x.2) (Tr.aK s T b)).2).1)):=(by show _=_;rw[zJ.o];have hc:=rC s T b x.2;simp only[Tr.eO,Tr.dQ,Tr.yR,Tr.thn,aCT,aCU,hc,aDK,Bool.false_or]);generalize(Tr.thn ([x.1],x.2) (Tr.aK s T b))=st at *;have hL:Calls aBS 179 #[pZZ g,kZZ 2] w3 (JE w3 (Old w3) g s T Ar c0 n (cut||Tr.eO x.1) (one st.2)):=L.calls w3 _ st.2 _ R.old;generalize one st.2=y at *;go_wp2_with fail;refine hL.mono ?_;clear hL;intro e1 w4 h4;obtain⟨u,rfl,nJ,R4,hu⟩:=h4;obtain⟨dB,A,c,vs,hb⟩:=hb;have hp:=OE.of hu R.dL hb;have hb:=hb.cZ nJ R.kg (fun _ hx=>hx);have nJ:=nJ.old R.dL;have R:=R.dH R4 nJ;have hA:=hA.trans nJ;clear nJ R4 hu;have o1:=hb.blk.cell 3;simp[iG] at o1;have xI:=hb.blk.lt;obtain⟨pts,ZI⟩:=dC st.1;rw[<-ZI] at zJ hp hb o1 htl;clear ZI hgo;generalize Tr.iA s T b one x=xb at *;have PW:=aB hgt;clear hgt;go_wp2_with (at_builtin;refine wpList_append_lies _ rfl _ _ 40 rfl 0 89 i0 _ 1 8 underlying40 ji iW jz1 iV rfl (by omega) (.slice A pts.length c) pts.length vs rfl (hb.own.alloc (.cells #[pZZ u] 89)) ⟨w4.heap.size,0,none⟩ 1 1 [pZZ u] rfl rfl (aCK (heap_alloc_new w4 _)) (by simp[aCA]) (by omega) (by unfold maxLen;omega) (by omega) (aBZ _) (w4.heap.size+1) (by simp) ?_;intro gg cap' w5 hown5 hgrow hat lD;obtain⟨b1,bf,hB,hk,R5⟩:=kV R hb hp hown5 hgrow hat)
    go_roundg (T.length-xb.2)
    case rel=>have hR6:mO (w5.setCell ⟨hm,3,none⟩ (.slice (some ⟨gg,0,none⟩) (pts.length+1) cap')) K g s T Ar c0 n xb.2 (cut||Tr.eO xb.1):=(by rw[J7.o,zJ.o,<-aFQ];exact R5);have Sm:Rn (w5.setCell ⟨hm,3,none⟩ (.slice (some ⟨gg,0,none⟩) (pts.length+1) cap')) (fun x=> ¬K x) xb.1 (pZZ hm):=(by rw[zJ.o];exact hB.part _);have zD:=hA.trans (hk.cZ g);have hgt:=PW.o;exact⟨xb,hm,rfl,by omega,aBT _,kC,zD,hR6,Sm⟩
    case measure=>have hgt:=PW.o;have h2:xb.2<=T.length:=(by rw[zJ.o];exact R5.hi);omega
theorem UA(b:Nat){one:Nat->Tr.PT×Nat}(X:FZ s T)(L:xk g s T Ar c0 n 1 one):xk g s T Ar c0 n 0 (fun i=>if Tr.aW s T [[61,61],[60]] (one i).2 then Tr.iA s T b one (one i)else one i):=by
 refine⟨fun i hi=> ?_,fun w K i cut R=> ?_⟩
 ·have h1:=L.goes i hi;split
  ·have:=Tr.xR s T b L.goes (one i) h1.2;omega
  ·exact h1
 obtain⟨i0,ji,iW,jz1,iV⟩:=info_parts tV;have hL:Calls aBS 179 #[pZZ g,kZZ 1] w (JE w K g s T Ar c0 n cut (one i)):=L.calls w K i cut R;have hg0:=L.goes i R.hi;generalize hr:(if Tr.aW s T [[61,61],[60]] (one i).2 then Tr.iA s T b one (one i)else one i)=r
 have Hr:aC ((if Tr.aW s T [[61,61],[60]] (one i).2 then Tr.iA s T b one (one i)else one i)=r):=hr
 clear hr
 go_enter func179,ntmps179
 go_wp2_with fail;refine hL.mono ?_;clear hL R;intro e1 w1 h1;obtain⟨q,rfl,hA,R,hp⟩:=h1;generalize one i=q1 at *;go_wp2_with fail
 go_loopg [6] (T.length-q1.2) (fun m v wr=> ∃(x:Tr.PT×Nat) (q:Nat),v=pZZ q/\q1.2<=x.2/\T.length-x.2<=m/\aC ((if Tr.aW s T [[61,61],[60]] x.2 then Tr.iA s T b one x else x)=r)/\fG K g w wr/\mO wr K g s T Ar c0 n x.2 (cut||Tr.eO x.1)/\Rn wr (fun x=> ¬K x) x.1 (pZZ q))
 case atStart=>exact⟨q1,q,rfl,aBT _,aBT _,Hr,hA,R,hp⟩
 case round=>
  clear hA R hp Hr;obtain⟨x,q,rfl,hx1,hq,Hx,hA,R,hp⟩:=hrel;have hi:=R.hi;have jA:aC (Tr.aW s T [[61,61],[60]] x.2=true->Tr.iA s T b one x=r):=fun h=>by have:=Hx.o;rwa [if_pos h] at this
  have fU:aC (Tr.aW s T [[61,61],[60]] x.2=false->x=r):=fun h=>by have:=Hx.o;rwa [if_neg (by rw[h];simp)] at this
  have JF:aC (Tr.aW s T [[61,61],[60]] x.2=(Tr.aW s T [[61,61]] x.2||Tr.aW s T [[60]] x.2)):=zt s T _ _ _
  clear Hx;have his: ∀(y:Bs) (w':World),Below wr.heap.size wr w'->Calls aBS 130 #[pZZ g,.string ⟨y.toArray⟩] w' fun e' w''=>e'=.returned (.bool (Tr.aW s T [y] x.2))/\Below wr.heap.size wr w'':=fun y w' hd=>(jQ X (R.below hd) y).mono fun _ _ h=>⟨h.1,hd.trans (h.2.mono hd.size)⟩
  have hs0:=his [61,61];have hs1:=his [60];clear his;generalize Tr.aW s T [[61,61]] x.2=v0 at *
  generalize Tr.aW s T [[60]] x.2=v1 at *
  generalize Tr.aW s T [[61,61],[60]] x.2=va at *
  go_upto_if 25 with fail
  go_cut [7] (fun z wc=>z=.bool va/\Below wr.heap.size wr wc)
  case first=>
   have hs0:=hs0 wr (aBU _ _);go_wp2_with fail;refine hs0.mono ?_;clear hs0;rintro e1 wi0 ⟨rfl,hd0⟩;have hs1:=hs1 wi0 hd0;go_wp2_with fail;refine hs1.mono ?_;clear hs1;rintro e1 wi1 ⟨rfl,hd1⟩;cases v0<;>cases v1<;>
   ·go_wp2_with fail;go_meet;exact⟨by rw[JF.o];rfl,hd1⟩
  case rest=>
   obtain⟨rfl,hd⟩:=hcut;have hA:=hA.trans (Kept.cZ (Kept.below hd R.dL) g);have hp:=hp.keep (F':=fun x=> ¬K x) hd.size (fun y hF hl=>⟨hd.block y hl,hF⟩);have R:=R.below hd;clear hd hs0 hs1 JF;cases va with
   |false=>have hst:=fU.o rfl;clear jA fU;subst hst;go_wp2_with fail;go_ret;exact⟨q,rfl,hA,R,hp⟩
   |true=>
    have kC:=aB (jA.o rfl);clear jA fU;have B1:Bn (((wc).alloc (.cells #[pZZ q] 89)).alloc (.cells #[kZZ 10,kZZ 0,.string ⟨#[]⟩,.slice (some ⟨wc.heap.size,0,none⟩) 1 1,kZZ 0,kZZ 0,kZZ 0,kZZ 0,.bool false] 93)) K (wc.heap.size+1) 10 [x.1]:=Bn.around R.dL 10 hp;have hd:Below wc.heap.size wc (((wc).alloc (.cells #[pZZ q] 89)).alloc (.cells #[kZZ 10,kZZ 0,.string ⟨#[]⟩,.slice (some ⟨wc.heap.size,0,none⟩) 1 1,kZZ 0,kZZ 0,kZZ 0,kZZ 0,.bool false] 93)):=((aBU _ _).alloc (aBT _) _).alloc (by simp) _;have hA:=hA.trans (Kept.cZ (Kept.below hd R.dL) g);have R:=R.below hd;clear hd hp;obtain⟨hm,hhm⟩:=dC (wc.heap.size+1);rw[<-hhm] at B1;go_upto_region 19 with fail;rw[<-hhm];clear hhm;generalize(((wc).alloc _).alloc _)=w2 at *;have htk:=oZ b X R B1 (by simp);clear B1;go_wp2_with fail;refine htk.mono ?_;clear htk R;intro e1 w3 h3;obtain⟨rfl,hA3,R,hb⟩:=h3;have hA:=hA.trans hA3;clear hA3;have htl:(Tr.thn ([x.1],x.2) (Tr.aK s T b)).1.length<=10000000:=by have h1:=Tr.take_len s T b x.2 hi;have h2:=Tr.vY T x.2;have h3:=X.hT;unfold Tr.thn;simp only[aBW,aGE];omega
    have hgo:=L.goes (Tr.thn ([x.1],x.2) (Tr.aK s T b)).2 R.hi;have zJ:aC (Tr.iA s T b one x=(.branch 10 x.1.from_ ((Tr.thn ([x.1],x.2) (Tr.aK s T b)).1++[(one (Tr.thn ([x.1],x.2) (Tr.aK s T b)).2).1]),(one (Tr.thn ([x.1],x.2) (Tr.aK s T b)).2).2)):=rfl;have J7:aC (Tr.eO (Tr.iA s T b one x).1=(Tr.eO x.1||Tr.eO (one (Tr.thn ([x.1],x.2) (Tr.aK s T b)).2).1)):=(by show _=_;rw[zJ.o];have hc:=rC s T b x.2;simp only[Tr.eO,Tr.dQ,Tr.yR,Tr.thn,aCT,aCU,hc,aDK,Bool.false_or]);generalize(Tr.thn ([x.1],x.2) (Tr.aK s T b))=st at *;have hL:Calls aBS 179 #[pZZ g,kZZ 1] w3 (JE w3 (Old w3) g s T Ar c0 n (cut||Tr.eO x.1) (one st.2)):=L.calls w3 _ st.2 _ R.old;generalize one st.2=y at *;go_wp2_with fail;refine hL.mono ?_;clear hL;intro e1 w4 h4;obtain⟨u,rfl,nJ,R4,hu⟩:=h4;obtain⟨dB,A,c,vs,hb⟩:=hb;have hp:=OE.of hu R.dL hb;have hb:=hb.cZ nJ R.kg (fun _ hx=>hx);have nJ:=nJ.old R.dL;have R:=R.dH R4 nJ;have hA:=hA.trans nJ;clear nJ R4 hu;have o1:=hb.blk.cell 3;simp[iG] at o1;have xI:=hb.blk.lt;obtain⟨pts,ZI⟩:=dC st.1;rw[<-ZI] at zJ hp hb o1 htl;clear ZI hgo;generalize Tr.iA s T b one x=xb at *;go_wp2_with (at_builtin;refine wpList_append_lies _ rfl _ _ 40 rfl 0 89 i0 _ 1 8 underlying40 ji iW jz1 iV rfl (by omega) (.slice A pts.length c) pts.length vs rfl (hb.own.alloc (.cells #[pZZ u] 89)) ⟨w4.heap.size,0,none⟩ 1 1 [pZZ u] rfl rfl (aCK (heap_alloc_new w4 _)) (by simp[aCA]) (by omega) (by unfold maxLen;omega) (by omega) (aBZ _) (w4.heap.size+1) (by simp) ?_;intro gg cap' w5 hown5 hgrow hat lD;obtain⟨b1,bf,hB,hk,R5⟩:=kV R hb hp hown5 hgrow hat);go_ret;have hR6:mO (w5.setCell ⟨hm,3,none⟩ (.slice (some ⟨gg,0,none⟩) (pts.length+1) cap')) K g s T Ar c0 n xb.2 (cut||Tr.eO xb.1):=by rw[J7.o,zJ.o,<-aFQ];exact R5
    have Sm:Rn (w5.setCell ⟨hm,3,none⟩ (.slice (some ⟨gg,0,none⟩) (pts.length+1) cap')) (fun x=> ¬K x) xb.1 (pZZ hm):=(by rw[zJ.o];exact hB.part _);have zD:=hA.trans (hk.cZ g);rw[<-kC.o];exact⟨hm,rfl,zD,hR6,Sm⟩
end
end Go.Proofs.YtcjjfeephaddcaaGreatDoor
